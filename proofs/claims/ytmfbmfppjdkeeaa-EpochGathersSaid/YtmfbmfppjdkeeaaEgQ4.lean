/- Words and steps, part 4: Memory as a reader of code meets it: slices that are read, slices that are owned, what an operation leaves as it was; and what each operation on memory comes to. A store into memory that is owned. Variables and rows in memory: what is loaded, stored, copied, cleared. Memory of one's own as a list of groups: one hypothesis carries all of it from step to step. From a walk to a row: the arguments read behind a call that changed nothing as they read before it. Parts of slices, copies, what is made, what is compared: in the form of groups. What shelves of answers are made of: lists of slices, lists of texts, one that has grown from another; a row made of zeros. -/
import Derived.Below
import Derived.Deep.AppendSrc
import Derived.Laws.BytesString
import Derived.Lib.ConvBytes
import Derived.Laws.Slices
import Derived.Laws.MakeOwn
import Derived.Laws.Tables
import Derived.Laws.Cells
import Derived.IntWalk
import Derived.ProofKit
import Derived.LaidMore
import Derived.OpenShut
import Derived.Stop.Joined
import Derived.SizedLaws
import Derived.Laws.Small
import Derived.Lib.SlBytesConst
import Derived.Test.YtmfbmfppjdkeeaaEgQ3
/- Memory as a reader of code meets it: slices that are read, slices that are owned, what an operation leaves as it was; and what each operation on memory comes to. -/
namespace Go.Fw
open Go Go.RowKit

/-! ### what has not changed -/
structure Upd (w w' : World) (S : Nat → Prop) : Prop where
  os : w'.os = w.os
  tape : w'.tape = w.tape
  output : w'.output = w.output
  size : w.heap.size ≤ w'.heap.size
  block : ∀ k, k < w.heap.size → ¬ S k → w'.heap[k]? = w.heap[k]?

def nobody : Nat → Prop := fun _ => False
theorem Upd.refl (w : World) (S : Nat → Prop) : Upd w w S := ⟨rfl, rfl, rfl, Nat.le_refl _, fun _ _ _ => rfl⟩
theorem Upd.trans {a b c : World} {S : Nat → Prop} (h : Upd a b S) (k : Upd b c S) : Upd a c S :=
  ⟨k.os.trans h.os, k.tape.trans h.tape, k.output.trans h.output, Nat.le_trans h.size k.size, fun i hi hs => (k.block i (by have := h.size; omega) hs).trans (h.block i hi hs)⟩
/-- The second step may also write whatever is new. -/
theorem Upd.trans' {a b c : World} {S T : Nat → Prop} (h : Upd a b S) (k : Upd b c T) (hT : ∀ i, T i → i < a.heap.size → S i) : Upd a c S :=
  ⟨k.os.trans h.os, k.tape.trans h.tape, k.output.trans h.output, Nat.le_trans h.size k.size,
    fun i hi hs => (k.block i (by have := h.size; omega) (fun ht => hs (hT i ht hi))).trans (h.block i hi hs)⟩
theorem Upd.mono {a b : World} {S T : Nat → Prop} (h : Upd a b S) (hST : ∀ i, i < a.heap.size → S i → T i) : Upd a b T :=
  ⟨h.os, h.tape, h.output, h.size, fun i hi hs => h.block i hi fun hS => hs (hST i hi hS)⟩
theorem Upd.drew (w : World) (S : Nat → Prop) : Upd w w.drew S := ⟨rfl, rfl, rfl, Nat.le_refl _, fun _ _ _ => rfl⟩
theorem Upd.alloc (w : World) (o : Obj) (S : Nat → Prop) : Upd w (w.alloc o) S :=
  ⟨rfl, rfl, rfl, by simp, fun k hk _ => heap_alloc_old w o k hk⟩
theorem Upd.setCell (w : World) (a : Addr) (v : Value) {S : Nat → Prop} (h : S a.block) : Upd w (w.setCell a v) S :=
  ⟨rfl, rfl, rfl, by simp, fun k _ hs => heap_setCell_other w a k v fun e => hs (e ▸ h)⟩
theorem Upd.setRow (w : World) (g : Nat) (cs : Array Value) {S : Nat → Prop} (h : S g) : Upd w (w.setRow g cs) S :=
  ⟨rfl, rfl, rfl, by simp, fun k _ hs => setRow_other w g k cs fun e => hs (e ▸ h)⟩
theorem Upd.below {w w' : World} (h : Upd w w' nobody) : Below w.heap.size w w' := ⟨h.os, h.tape, h.output, h.size, fun k hk => h.block k hk (fun h => h)⟩
theorem Upd.cell {w w' : World} {S : Nat → Prop} (h : Upd w w' S) {a : Addr} {v : Value} (hc : w.cell? a = some v) (hs : ¬ S a.block) : w'.cell? a = some v :=
  (World.cell?_of_block (w := w) (h.block a.block (World.block_lt_of_cell? w a hc) hs)).trans hc
theorem Upd.obj {w w' : World} {S : Nat → Prop} (h : Upd w w' S) {b : Nat} {o : Obj} (hc : w.heap[b]? = some o) (hs : ¬ S b) : w'.heap[b]? = some o :=
  (h.block b (Array.getElem?_eq_some_iff.1 hc).1 hs).trans hc
theorem lt_of_obj {w : World} {b : Nat} {o : Obj} (h : w.heap[b]? = some o) : b < w.heap.size := (Array.getElem?_eq_some_iff.1 h).1

/-! ### slices -/
def Sl.blk (s : Sl) : Option Nat := s.a.map (·.block)
/-- A slice that reads so: each element has 'sz' cells. -/
def Rd (w : World) (s : Sl) (sz : Nat) (vs : List Value) : Prop :=
  vs.length = s.len * sz ∧ (vs = [] ∨ ∃ b o, s.a = some ⟨b, o, none⟩ ∧ ∀ i v, vs[i]? = some v → w.cell? ⟨b, o + i, none⟩ = some v) ∧ s.len ≤ s.cap
/-- A slice whose memory, up to its capacity, is nobody else's. -/
def Ow (w : World) (base : Nat) (E : TypeId) (sz : Nat) (s : Sl) (vs : List Value) : Prop :=
  vs.length = s.len * sz ∧ ((s = ⟨none, 0, 0⟩) ∨ ∃ g o cs, s.a = some ⟨g, o, none⟩ ∧ base ≤ g ∧ w.heap[g]? = some (.cells ⟨cs⟩ E (0, 0)) ∧ s.len ≤ s.cap ∧ s.cap ≤ maxLen ∧
    o + s.cap * sz ≤ cs.length ∧ (cs.drop o).take (s.len * sz) = vs)

theorem Rd.len {w : World} {s : Sl} {sz : Nat} {vs : List Value} (h : Rd w s sz vs) : vs.length = s.len * sz := h.1
theorem Ow.len {w : World} {base : Nat} {E : TypeId} {sz : Nat} {s : Sl} {vs : List Value} (h : Ow w base E sz s vs) : vs.length = s.len * sz := h.1
theorem Ow.nil (w : World) (base : Nat) (E : TypeId) (sz : Nat) : Ow w base E sz ⟨none, 0, 0⟩ [] := ⟨by simp, .inl rfl⟩
theorem Rd.nil (w : World) (sz : Nat) : Rd w ⟨none, 0, 0⟩ sz [] := ⟨by simp, .inl rfl, Nat.le_refl _⟩
theorem Ow.rd {w : World} {base : Nat} {E : TypeId} {sz : Nat} {s : Sl} {vs : List Value} (h : Ow w base E sz s vs) : Rd w s sz vs := by
  rcases h.2 with rfl | ⟨g, o, cs, ha, hb, hg, h1, h2, h3, h4⟩
  · refine ⟨h.1, .inl ?_, Nat.le_refl _⟩
    have := h.1
    simp at this
    exact this
  · refine ⟨h.1, .inr ⟨g, o, ha, fun i v hv => ?_⟩, h1⟩
    rw [cell_of_row w g _ ⟨cs⟩ E (0, 0) hg]
    rw [← h4, List.getElem?_take] at hv
    split at hv
    · simpa [List.getElem?_drop] using hv
    · cases hv
theorem Rd.upd {w w' : World} {S : Nat → Prop} {s : Sl} {sz : Nat} {vs : List Value} (h : Rd w s sz vs) (hu : Upd w w' S) (hs : ∀ b, s.blk = some b → ¬ S b) : Rd w' s sz vs := by
  refine ⟨h.1, ?_, h.2.2⟩
  rcases h.2.1 with h0 | ⟨b, o, ha, hc⟩
  · exact .inl h0
  · exact .inr ⟨b, o, ha, fun i v hv => hu.cell (hc i v hv) (hs b (by simp [Sl.blk, ha]))⟩
theorem Ow.upd {w w' : World} {S : Nat → Prop} {base : Nat} {E : TypeId} {sz : Nat} {s : Sl} {vs : List Value} (h : Ow w base E sz s vs) (hu : Upd w w' S) (hs : ∀ b, s.blk = some b → ¬ S b) : Ow w' base E sz s vs := by
  refine ⟨h.1, ?_⟩
  rcases h.2 with h0 | ⟨g, o, cs, ha, hb, hg, r⟩
  · exact .inl h0
  · exact .inr ⟨g, o, cs, ha, hb, hu.obj hg (hs g (by simp [Sl.blk, ha])), r⟩
theorem Ow.lt {w : World} {base : Nat} {E : TypeId} {sz : Nat} {s : Sl} {vs : List Value} (h : Ow w base E sz s vs) {b : Nat} (hb : s.blk = some b) : base ≤ b ∧ b < w.heap.size := by
  rcases h.2 with rfl | ⟨g, o, cs, ha, hbase, hg, r⟩
  · simp [Sl.blk] at hb
  · simp [Sl.blk, ha] at hb; subst hb; exact ⟨hbase, lt_of_obj hg⟩
theorem Ow.base {w : World} {base base' : Nat} {E : TypeId} {sz : Nat} {s : Sl} {vs : List Value} (h : Ow w base E sz s vs) (hb : ∀ b, s.blk = some b → base' ≤ b) : Ow w base' E sz s vs := by
  refine ⟨h.1, ?_⟩
  rcases h.2 with h0 | ⟨g, o, cs, ha, hbase, r⟩
  · exact .inl h0
  · exact .inr ⟨g, o, cs, ha, hb g (by simp [Sl.blk, ha]), r⟩
theorem Rd.cell {w : World} {s : Sl} {sz : Nat} {vs : List Value} (h : Rd w s sz vs) {i : Nat} {v : Value} (hv : vs[i]? = some v) : ∃ b o, s.a = some ⟨b, o, none⟩ ∧ w.cell? ⟨b, o + i, none⟩ = some v := by
  rcases h.2.1 with h0 | ⟨b, o, ha, hc⟩
  · subst h0; simp at hv
  · exact ⟨b, o, ha, hc i v hv⟩

/-! ### types of slices -/
def etB (P : Program) (t e : TypeId) (sz by_ : Nat) : Bool :=
  match P.underlying t, P.info? e with
  | some (.slice e'), some i => Nat.beq e' e && Nat.beq i.size sz && Nat.beq i.bytes by_ && (match i.zero with | some z => Nat.beq z.cells.size sz | none => false)
  | _, _ => false
structure ET (P : Program) (t e : TypeId) (sz by_ : Nat) : Prop where
  ht : P.underlying t = some (.slice e)
  hi : ∃ i z, P.info? e = some i ∧ i.zero = some z ∧ i.size = sz ∧ i.bytes = by_ ∧ z.cells.size = sz
theorem ET.of {P : Program} {t e : TypeId} {sz by_ : Nat} (h : etB P t e sz by_ = true) : ET P t e sz by_ := by
  unfold etB at h
  split at h
  · rename_i e' i ht hi
    simp only [Bool.and_eq_true] at h
    obtain ⟨⟨⟨h1, h2⟩, h3⟩, h4⟩ := h
    have := Nat.eq_of_beq_eq_true h1; subst this
    split at h4
    · rename_i z hz
      exact ⟨ht, i, z, hi, hz, Nat.eq_of_beq_eq_true h2, Nat.eq_of_beq_eq_true h3, Nat.eq_of_beq_eq_true h4⟩
    · cases h4
  · cases h

section
variable {P : Program} {w : World}

theorem RunN.of {kd : Kd} {s : Sem Value} {K : kd.T → World → Prop} {x : kd.T} {w' : World} (hr : s.run P w = .ok (kd.val x) w') (h : K x w') : RunN P kd (V s) w K :=
  ⟨x, w', by simp [V, hr], h⟩
theorem RunU.of {s : Sem Unit} {K : World → Prop} {w' : World} (hr : s.run P w = .ok () w') (h : K w') : RunU P (U s) w K := ⟨w', by simp [U, hr], h⟩
theorem ReadN.of {kd : Kd} {s : Sem Value} {K : kd.T → Prop} {x : kd.T} (hr : s.run P w = .ok (kd.val x) w) (h : K x) : ReadN P kd (V s) w K := ⟨x, by simp [V, hr], h⟩
theorem StillV.of {s : Sem Value} {v : Value} (hr : s.run P w = .ok v w) : StillV P (V s) v w := by simp [StillV, V, hr]
theorem CallK.mono {kd : Kd} {f : FuncId} {args : Array Value} {K K' : kd.T → World → Prop} (h : CallK P kd f args w K) (hk : ∀ x w', K x w' → K' x w') : CallK P kd f args w K' :=
  Calls.mono h fun _ _ ⟨x, e, hx⟩ => ⟨x, e, hk _ _ hx⟩

/-- Append, onto what is owned, of whatever may be read. -/
theorem run_app {base : Nat} {t tx ty e : TypeId} {sz by_ : Nat} (et : ET P t e sz by_) (hsz : 0 < sz) {s : Sl} {xs : List Value} (ho : Ow w base e sz s xs) {x : Value} {n : Nat} {news : List Value} (hs : Src P sz tx x n news w)
    (hbase : base ≤ w.heap.size) (h63 : s.len + n ≤ maxLen) (hfit : (s.len + n) * by_ ≤ 140737488355328) :
    ∃ s' w', (Builtin.append_ #[t, tx] ty #[.slice s.a s.len s.cap, x]).run P w = .ok (.slice s'.a s'.len s'.cap) w' ∧ s'.len = s.len + n ∧ Ow w' base e sz s' (xs ++ news) ∧
      Upd w w' (fun k => s.blk = some k) ∧ ((s'.a = s.a ∧ s'.cap = s.cap) ∨ (Upd w w' nobody ∧ ∃ g, s'.blk = some g ∧ w.heap.size ≤ g ∧ g < w'.heap.size)) := by
  obtain ⟨i, z, hi, hz, h1, h2, h3⟩ := et.hi
  subst h1; subst h2
  have hs63 : ((s.len + n : Nat) : Int) ≤ 9223372036854775807 := by simp only [maxLen] at h63; omega
  rcases ho.2 with hnil | ⟨g, o, cs, ha, hbg, hg, hlc, hcm, hcs, htake⟩
  · subst hnil
    have hx : xs = [] := by have := ho.1; simpa using this
    subst hx
    by_cases hn : n = 0
    · subst hn
      have hnw : news = [] := by have := hs.newsLen; simpa using this
      subst hnw
      refine ⟨⟨none, 0, 0⟩, w, ?_, rfl, Ow.nil _ _ _ _, Upd.refl _ _, .inl ⟨rfl, rfl⟩⟩
      rcases hs.kind with ⟨e', hk⟩ | hk <;> simp [Builtin.append_, run_underlying et.ht, run_underlying hk, sizeOf, typeInfo, hi, hs.len, hs.cells]
    · have hr := run_append_grow_src (P := P) w t tx ty e i z et.ht hi hz none 0 0 [] (by simp [Builtin.firstCells]) x n news hs (by omega) (by simpa using hs63)
        (growslice_fits (by omega) (by simpa using hfit))
      simp only [Nat.zero_add] at hr
      refine ⟨⟨some ⟨w.heap.size, 0, none⟩, n, grownCap w n 0 e⟩, _, hr, by simp, ⟨by simp [hs.newsLen], .inr ⟨w.heap.size, 0, (([] ++ news).toArray ++ Builtin.zeroCells z.cells (grownCap w n 0 e - n)).toList, rfl, hbase, heap_alloc_new w.drew _, grownCap_ge _ _ _ _, grownCap_le_maxLen _ _ _ _ (by simpa using h63), ?_, ?_⟩⟩,
        (Upd.drew w _).trans (Upd.alloc _ _ _), .inr ⟨(Upd.drew w _).trans (Upd.alloc _ _ _), w.heap.size, rfl, Nat.le_refl _, by simp⟩⟩
      · have hge := grownCap_ge w n 0 e
        rw [Array.length_toList, Array.size_append, size_zeroCells, h3]
        simp only [List.nil_append, List.size_toArray, hs.newsLen, ← Nat.add_mul]
        rw [Nat.zero_add]
        exact Nat.mul_le_mul_right _ (by omega)
      · have : ([] ++ news : List Value).length = n * i.size := by simp [hs.newsLen]
        rw [List.drop_zero, Array.toList_append, ← this]
        exact List.take_left
  · by_cases hroom : s.len + n ≤ s.cap
    · have hle : (s.len + n) * i.size ≤ s.cap * i.size := Nat.mul_le_mul_right _ hroom
      rw [Nat.add_mul] at hle
      have hst := run_storeCells_at P g (o + s.len * i.size) e news 0 ⟨cs⟩ w hg (by simp [hs.newsLen]; omega) hs.one
      simp only [Nat.add_zero] at hst
      refine ⟨⟨s.a, s.len + n, s.cap⟩, w.setRow g (cs.take (o + s.len * i.size) ++ news ++ cs.drop (o + s.len * i.size + news.length)).toArray, ?_, rfl, ⟨by simp [ho.1, hs.newsLen, Nat.add_mul], .inr ⟨g, o, _, ha, hbg, setRow_heap w g ⟨cs⟩ _ e _ hg, hroom, hcm, ?_, ?_⟩⟩,
        Upd.setRow _ _ _ (by simp [Sl.blk, ha]), .inl ⟨rfl, rfl⟩⟩
      · rw [ha]
        rcases hs.kind with ⟨e', hk⟩ | hk <;> simp [Builtin.append_, run_underlying et.ht, run_underlying hk, sizeOf, typeInfo, hi, hs.len, hroom, hs.cells, Addr.add_lit, hst]
      · simp [hs.newsLen]; omega
      · have hl1 : (cs.take (o + s.len * i.size)).length = o + s.len * i.size := by simp; omega
        rw [List.append_assoc, List.drop_append_of_le_length (by rw [hl1]; omega), List.drop_take]
        have : o + s.len * i.size - o = s.len * i.size := by omega
        rw [this, htake, ← List.append_assoc]
        have hlen : (xs ++ news).length = (s.len + n) * i.size := by simp [ho.1, hs.newsLen, Nat.add_mul]
        rw [← hlen]; exact List.take_left
    · have holds : ∀ j u, xs[j]? = some u → w.drew.cell? ((⟨g, o, none⟩ : Addr).add j) = some u := by
        intro j u hu
        have hadd : (⟨g, o, none⟩ : Addr).add j = ⟨g, o + j, none⟩ := by unfold Addr.add; split <;> simp_all
        rw [hadd, World.cell?_drew, cell_of_row w g _ ⟨cs⟩ e (0, 0) hg]
        rw [← htake, List.getElem?_take] at hu
        split at hu
        · simpa [List.getElem?_drop] using hu
        · cases hu
      have hr := run_append_grow_src (P := P) w t tx ty e i z et.ht hi hz s.a s.len s.cap xs (by rw [ha]; exact run_firstCells_some w.drew i.size s.len ⟨g, o, none⟩ s.len s.cap xs ho.1 holds) x n news hs (by omega) hs63 (growslice_fits (by omega) hfit)
      refine ⟨⟨some ⟨w.heap.size, 0, none⟩, s.len + n, grownCap w (s.len + n) s.cap e⟩, _, hr, rfl, ⟨by simp [ho.1, hs.newsLen, Nat.add_mul], .inr ⟨w.heap.size, 0, ((xs ++ news).toArray ++ Builtin.zeroCells z.cells (grownCap w (s.len + n) s.cap e - (s.len + n))).toList, rfl, hbase, heap_alloc_new w.drew _, grownCap_ge _ _ _ _, grownCap_le_maxLen _ _ _ _ h63, ?_, ?_⟩⟩,
        (Upd.drew w _).trans (Upd.alloc _ _ _), .inr ⟨(Upd.drew w _).trans (Upd.alloc _ _ _), w.heap.size, rfl, Nat.le_refl _, by simp⟩⟩
      · have hge := grownCap_ge w (s.len + n) s.cap e
        rw [Array.length_toList, Array.size_append, size_zeroCells, h3]
        simp only [List.size_toArray, List.length_append, ho.1, hs.newsLen, ← Nat.add_mul]
        rw [Nat.zero_add]
        exact Nat.mul_le_mul_right _ (by omega)
      · have hlen : (xs ++ news).length = (s.len + n) * i.size := by simp [ho.1, hs.newsLen, Nat.add_mul]
        rw [List.drop_zero, Array.toList_append, ← hlen]
        exact List.take_left

/-! ### the operations, each by its own law -/
theorem add_lit' (b o i : Nat) : (⟨b, o, none⟩ : Addr).add i = ⟨b, o + i, none⟩ := by unfold Addr.add; split <;> simp_all

theorem Src.ofRd {t e : TypeId} {sz by_ : Nat} (et : ET P t e sz by_) (hsz : 0 < sz) {p : Sl} {vs : List Value} (h : Rd w p sz vs) (h1 : ∀ u ∈ vs, u.oneCell' = true) : Src P sz t (.slice p.a p.len p.cap) p.len vs w := by
  cases ha : p.a with
  | none =>
    have hv : vs = [] := by
      rcases h.2.1 with h0 | ⟨b, o, ha', _⟩
      · exact h0
      · rw [ha] at ha'; cases ha'
    subst hv
    have hl : p.len = 0 := by
      have := h.1
      simp only [List.length_nil] at this
      rcases Nat.eq_zero_or_pos p.len with h0 | h0
      · exact h0
      · have := Nat.mul_pos h0 hsz; omega
    rw [hl]
    exact Src.ofNil w et.ht p.cap
  | some a =>
    refine Src.ofSlice w et.ht a p.len p.cap vs h.1 (fun j u hu => ?_) h1
    rcases h.2.1 with h0 | ⟨b, o, ha', hc⟩
    · subst h0; simp at hu
    · rw [ha] at ha'; cases ha'
      rw [add_lit']; exact hc j u hu

theorem RunN.app {base : Nat} {t tx ty e : TypeId} {sz by_ : Nat} (et : ET P t e sz by_) (hsz : 0 < sz) {s : Sl} {xs : List Value} (ho : Ow w base e sz s xs) {x : Value} {n : Nat} {news : List Value} (hs : Src P sz tx x n news w)
    (hbase : base ≤ w.heap.size) (h63 : s.len + n ≤ maxLen) (hfit : (s.len + n) * by_ ≤ 140737488355328) {K : Sl → World → Prop}
    (h : ∀ s' w', s'.len = s.len + n → Ow w' base e sz s' (xs ++ news) → Upd w w' (fun k => s.blk = some k) → (s'.blk = s.blk ∨ ∃ g, s'.blk = some g ∧ w.heap.size ≤ g ∧ g < w'.heap.size) → K s' w') :
    RunN P .sl (V (Builtin.append_ #[t, tx] ty #[.slice s.a s.len s.cap, x])) w K := by
  obtain ⟨s', w', hr, h1, h2, h3, h4⟩ := run_app et hsz ho hs hbase h63 hfit (ty := ty)
  refine RunN.of (kd := .sl) (x := s') hr (h s' w' h1 h2 h3 ?_)
  rcases h4 with ⟨h4, _⟩ | ⟨_, h4⟩
  · exact .inl (by simp [Sl.blk, h4])
  · exact .inr h4

/-- A place of a slice. -/
theorem run_idx {t e : TypeId} {sz by_ : Nat} (et : ET P t e sz by_) {s : Sl} {b o : Nat} (ha : s.a = some ⟨b, o, none⟩) {k : IntKind} {i : Int} (h0 : 0 ≤ i) (h1 : i < s.len) :
    (Instr.indexAt t (.slice s.a s.len s.cap) (.int k i)).run P w = .ok (.pointer (some ⟨b, o + i.toNat * sz, none⟩)) w := by
  obtain ⟨j, z, hi, hz, h2, h3, h4⟩ := et.hi
  rw [ha]
  simp [Instr.indexAt, asIntOf, run_underlying et.ht, h0, h1, sizeOf, typeInfo, hi, h2, add_lit']
theorem RunN.idx {t e : TypeId} {sz by_ : Nat} (et : ET P t e sz by_) {s : Sl} {b o : Nat} (ha : s.a = some ⟨b, o, none⟩) {k : IntKind} {i : Int} (h0 : 0 ≤ i) (h1 : i < s.len) {K : Addr → World → Prop}
    (h : K ⟨b, o + i.toNat * sz, none⟩ w) : RunN P .addr (V (Instr.indexAt t (.slice s.a s.len s.cap) (.int k i))) w K :=
  RunN.of (kd := .addr) (run_idx et ha h0 h1) h

/-- A type whose values lie in one cell. -/
def scB (P : Program) (t : TypeId) : Bool := match P.underlying t with
  | some (.struct _) => false
  | some (.array _ _) => false
  | some _ => (match P.info? t with | some i => Nat.beq i.size 1 | none => false)
  | none => false
theorem isAgg_of {t : TypeId} (h : scB P t = true) : (isAgg t).run P w = .ok false w := by
  unfold scB at h
  cases hu : P.underlying t with
  | none => simp [hu] at h
  | some d => cases d <;> simp_all [isAgg, run_underlying hu]
theorem run_load {t : TypeId} (ht : scB P t = true) {p : Addr} {v : Value} (hc : w.cell? p = some v) : (Instr.loadAt t (.pointer (some p))).run P w = .ok v w := by
  have := isAgg_of (w := w) ht
  simp [Instr.loadAt, Instr.sureAddr, loadVar, this, load, Sem.run, hc]
theorem RunN.load {t : TypeId} (ht : scB P t = true) {kd : Kd} {p : Addr} {x : kd.T} (hc : w.cell? p = some (kd.val x)) {K : kd.T → World → Prop} (h : K x w) : RunN P kd (V (Instr.loadAt t (.pointer (some p)))) w K :=
  RunN.of (run_load ht hc) h
theorem ReadN.load {t : TypeId} (ht : scB P t = true) {kd : Kd} {p : Addr} {x : kd.T} (hc : w.cell? p = some (kd.val x)) {K : kd.T → Prop} (h : K x) : ReadN P kd (V (Instr.loadAt t (.pointer (some p)))) w K :=
  ReadN.of (run_load ht hc) h
theorem StillV.load {t : TypeId} (ht : scB P t = true) {p : Addr} {v : Value} (hc : w.cell? p = some v) : StillV P (V (Instr.loadAt t (.pointer (some p)))) v w := StillV.of (run_load ht hc)
theorem run_stor {t : TypeId} (ht : scB P t = true) {p : Addr} {u v : Value} (hv : v.oneCell' = true) (hc : w.cell? p = some u) (hf : w.frozen? p = false) :
    (Instr.storeAt t (.pointer (some p)) v).run P w = .ok () (w.setCell p v) := by
  have hsz : (sizeOf t).run P w = .ok 1 w := by
    unfold scB at ht
    cases hu : P.underlying t with
    | none => simp [hu] at ht
    | some d =>
      cases hi : P.info? t with
      | none => cases d <;> simp [hu, hi] at ht
      | some i =>
        have : i.size = 1 := by cases d <;> simp [hu, hi] at ht <;> exact ht
        simp [sizeOf, typeInfo, hi, this]
  have h1 : v.cells = #[v] := by cases v <;> first | rfl | (simp [Value.oneCell'] at hv)
  have hst := run_store P w p v .plain hv
  rw [hc] at hst
  simp only [hf] at hst
  have hadd : p.add 0 = p := by simp [Addr.add]
  simp [Instr.storeAt, Instr.sureAddr, storeVar, hsz, h1, storeCells, hadd, hst]
theorem RunU.stor {t : TypeId} (ht : scB P t = true) {p : Addr} {u v : Value} (hv : v.oneCell' = true) (hc : w.cell? p = some u) (hf : w.frozen? p = false) {K : World → Prop} (h : K (w.setCell p v)) :
    RunU P (U (Instr.storeAt t (.pointer (some p)) v)) w K := RunU.of (run_stor ht hv hc hf) h

/-- Bytes. -/
def u8v (x : UInt8) : Value := .int .u8 (x.toNat : Int)
def bys (l : List UInt8) : List Value := l.map u8v
@[simp] theorem bys_length (l : List UInt8) : (bys l).length = l.length := by simp [bys]
theorem bys_append (a b : List UInt8) : bys (a ++ b) = bys a ++ bys b := by simp [bys]
theorem bys_get {l : List UInt8} {i : Nat} (h : i < l.length) : (bys l)[i]? = some (u8v l[i]) := by simp [bys, h]
theorem bys_one (l : List UInt8) : ∀ u ∈ bys l, u.oneCell' = true := by
  intro u hu
  obtain ⟨x, _, rfl⟩ := List.mem_map.1 hu
  rfl

def strB (P : Program) (src e dst : TypeId) : Bool := match P.underlying src, P.underlying e, P.underlying dst with
  | some (.slice e'), some (.int .u8), some .string => Nat.beq e' e
  | _, _, _ => false
theorem foldl_push (l : List UInt8) (acc : ByteArray) : (l.map fun x => (x.toNat : Int)).foldl (fun r n => r.push (UInt8.ofNat n.toNat)) acc = ⟨acc.data ++ l.toArray⟩ := by
  induction l generalizing acc with
  | nil => simp
  | cons x r ih =>
    simp only [List.map_cons, List.foldl_cons, ih]
    have : (acc.push (UInt8.ofNat (x.toNat : Int).toNat)).data = acc.data.push x := by simp [ByteArray.push]
    rw [this]; simp
theorem run_toStr {src e dst : TypeId} (h : strB P src e dst = true) {s : Sl} {l : List UInt8} (hr : Rd w s 1 (bys l)) : (convert src dst (.slice s.a s.len s.cap)).run P w = .ok (.string ⟨l.toArray⟩) w := by
  unfold strB at h
  split at h
  · rename_i e' h1 h2 h3
    have := Nat.eq_of_beq_eq_true h; subst this
    rw [run_convert_bytes_string w src dst e' s.a s.len s.cap h1 h2 h3]
    cases ha : s.a with
    | none =>
      have hv : l = [] := by
        rcases hr.2.1 with h0 | ⟨b, o, ha', _⟩
        · simpa [bys] using h0
        · rw [ha] at ha'; cases ha'
      subst hv
      simp [Conv.bytesToString]; rfl
    | some a =>
      have hlen : s.len = l.length := by have := hr.1; simp at this; omega
      have hl : (loadCells a s.len).run P w = .ok ((l.map fun x => (x.toNat : Int)).map (Value.int .u8)).toArray w := by
        have e1 : (l.map fun x => (x.toNat : Int)).map (Value.int .u8) = bys l := by simp [bys, u8v]
        rw [e1, hlen, ← bys_length l]
        refine run_loadCells_list w a (bys l) fun j u hu => ?_
        rcases hr.2.1 with h0 | ⟨b, o, ha', hc⟩
        · rw [h0] at hu; simp at hu
        · rw [ha] at ha'; cases ha'
          rw [add_lit']; exact hc j u hu
      rw [run_bytesToString w a s.len s.cap _ hl, foldl_push]
      simp
  · cases h

theorem RunN.toStr {src e dst : TypeId} (h : strB P src e dst = true) {s : Sl} {l : List UInt8} (hr : Rd w s 1 (bys l)) {K : ByteArray → World → Prop} (hk : K ⟨l.toArray⟩ w) : RunN P .str (V (convert src dst (.slice s.a s.len s.cap))) w K :=
  RunN.of (kd := .str) (run_toStr h hr) hk
theorem ReadN.toStr {src e dst : TypeId} (h : strB P src e dst = true) {s : Sl} {l : List UInt8} (hr : Rd w s 1 (bys l)) {K : ByteArray → Prop} (hk : K ⟨l.toArray⟩) : ReadN P .str (V (convert src dst (.slice s.a s.len s.cap))) w K :=
  ReadN.of (kd := .str) (run_toStr h hr) hk
theorem StillV.toStr {src e dst : TypeId} (h : strB P src e dst = true) {s : Sl} {l : List UInt8} (hr : Rd w s 1 (bys l)) : StillV P (V (convert src dst (.slice s.a s.len s.cap))) (.string ⟨l.toArray⟩) w :=
  StillV.of (run_toStr h hr)

/-- A literal slice in memory of its own. -/
theorem Ow.lit {base : Nat} {e : TypeId} {sz n c : Nat} {cs : List Value} (hbase : base ≤ w.heap.size) (hn : n ≤ c) (hc : c ≤ maxLen) (hl : cs.length = c * sz) : Ow (w.alloc (.cells ⟨cs⟩ e)) base e sz ⟨some ⟨w.heap.size, 0, none⟩, n, c⟩ (cs.take (n * sz)) := by
  have h1 : n * sz ≤ c * sz := Nat.mul_le_mul_right _ hn
  exact ⟨by simp; omega, .inr ⟨w.heap.size, 0, cs, rfl, hbase, heap_alloc_new w _, hn, hc, by simp; omega, by simp⟩⟩

theorem RunN.make0 {t e : TypeId} {sz by_ : Nat} (et : ET P t e sz by_) {base : Nat} {kc : IntKind} {c : Int} (h0 : 0 ≤ c) (hb : (by_ : Int) * c ≤ 281474976710656) (h63 : c ≤ 9223372036854775807) (hbase : base ≤ w.heap.size) {K : Sl → World → Prop}
    (h : ∀ s' w', s'.len = 0 → s'.cap = c.toNat → Ow w' base e sz s' [] → Upd w w' nobody → s'.blk = some w.heap.size → w.heap.size < w'.heap.size → K s' w') :
    RunN P .sl (V (Instr.makeSlice t (.int .i64 0) (.int kc c))) w K := by
  obtain ⟨i, z, hi, hz, h1, h2, h3⟩ := et.hi
  subst h1; subst h2
  have hr := run_make (P := P) w t e i z et.ht hi hz .i64 kc 0 c (Int.le_refl _) h0 hb h63
  refine RunN.of (kd := .sl) (x := ⟨some ⟨w.heap.size, 0, none⟩, 0, c.toNat⟩) (by simpa [Kd.val] using hr) (h _ _ rfl rfl ?_ (Upd.alloc _ _ _) rfl (by simp))
  have := Ow.lit (w := w) (e := e) (sz := i.size) (n := 0) (c := c.toNat) (cs := (madeCells z.cells (c.toNat * i.size)).toList) hbase (Nat.zero_le _) (by simp only [maxLen]; omega) (by rw [Array.length_toList, size_madeCells])
  simpa using this
theorem Rd.bys_at {w : World} {s : Sl} {l : List UInt8} (hr : Rd w s 1 (bys l)) (hne : l ≠ []) : ∃ b o, s.a = some ⟨b, o, none⟩ ∧ ∀ i (h : i < l.length), w.cell? ⟨b, o + i, none⟩ = some (u8v l[i]) := by
  rcases hr.2.1 with h0 | ⟨b, o, ha, hc⟩
  · exact absurd (by simpa [bys] using h0) hne
  · exact ⟨b, o, ha, fun i h => hc i _ (bys_get h)⟩
theorem Rd.bys_len {w : World} {s : Sl} {l : List UInt8} (hr : Rd w s 1 (bys l)) : s.len = l.length := by have := hr.1; simp at this; omega


theorem toList_mk (l : List UInt8) : (⟨l.toArray⟩ : ByteArray).toList = l := by
  have key : ∀ (n : Nat) (i : Nat) (r : List UInt8), l.length - i = n → i ≤ l.length → ByteArray.toList.loop (⟨l.toArray⟩ : ByteArray) i r = r.reverse ++ l.drop i := by
    intro n
    induction n with
    | zero =>
      intro i r hn hi
      have : i = l.length := by omega
      subst this
      unfold ByteArray.toList.loop
      have : ¬ (l.length < (⟨l.toArray⟩ : ByteArray).size) := by simp [ByteArray.size]
      rw [if_neg this]; simp
    | succ n ih =>
      intro i r hn hi
      unfold ByteArray.toList.loop
      have hlt : i < (⟨l.toArray⟩ : ByteArray).size := by simp [ByteArray.size]; omega
      have hlt' : i < l.length := by omega
      rw [if_pos hlt, ih (i + 1) _ (by omega) (by omega)]
      have hg : (⟨l.toArray⟩ : ByteArray).get! i = l[i] := by simp [ByteArray.get!, hlt']
      rw [hg, List.reverse_cons, List.append_assoc, List.singleton_append, ← List.drop_eq_getElem_cons hlt']
  have := key l.length 0 [] (by omega) (Nat.zero_le _)
  simpa [ByteArray.toList] using this

/-- A part of a slice. -/
def subA (s : Sl) (lo sz : Nat) : Option Addr := if s.cap = lo then s.a else s.a.map (·.add (lo * sz))
theorem Rd.sub {w : World} {s : Sl} {sz : Nat} {vs : List Value} (h : Rd w s sz vs) {lo hi m : Nat} (h1 : lo ≤ hi) (h2 : hi ≤ s.len) (hm : hi ≤ m) :
    Rd w ⟨if m = lo then s.a else s.a.map (·.add (lo * sz)), hi - lo, m - lo⟩ sz ((vs.drop (lo * sz)).take ((hi - lo) * sz)) := by
  have hle : hi * sz ≤ s.len * sz := Nat.mul_le_mul_right _ h2
  have hsub : (hi - lo) * sz = hi * sz - lo * sz := Nat.sub_mul _ _ _
  refine ⟨by simp [h.1]; omega, ?_, by dsimp only; omega⟩
  by_cases he : hi = lo
  · left; subst he; simp
  · rcases h.2.1 with h0 | ⟨b, o, ha, hc⟩
    · left; subst h0; simp
    · right
      have hml : m ≠ lo := by omega
      refine ⟨b, o + lo * sz, by simp [hml, ha, add_lit'], fun i v hv => ?_⟩
      rw [List.getElem?_take] at hv
      split at hv
      · rw [List.getElem?_drop] at hv
        rw [Nat.add_assoc]; exact hc _ v hv
      · cases hv
theorem elem_of {t e : TypeId} {sz by_ : Nat} (et : ET P t e sz by_) : P.underlying t = some (.slice (P.elem t)) := by simp [Program.elem, et.ht]
theorem run_size {t e : TypeId} {sz by_ : Nat} (et : ET P t e sz by_) : (sizeOf (P.elem t)).run P w = .ok sz w := by
  obtain ⟨i, z, hi, hz, h1, h2, h3⟩ := et.hi
  have : P.elem t = e := by simp [Program.elem, et.ht]
  rw [this]; simp [sizeOf, typeInfo, hi, h1]
/-- s[:h] -/
theorem RunN.subH {t e : TypeId} {sz by_ : Nat} (et : ET P t e sz by_) {s : Sl} {k : IntKind} {h : Int} (h0 : 0 ≤ h) (h2 : h ≤ s.cap) {K : Sl → World → Prop}
    (hk : K ⟨if s.cap = 0 then s.a else s.a.map (·.add (0 * sz)), h.toNat - 0, s.cap - 0⟩ w) : RunN P .sl (V (Instr.sliceAt t (.slice s.a s.len s.cap) none (some (.int k h)) none)) w K := by
  refine RunN.of (kd := .sl) ?_ hk
  rw [run_sliceAt_slice w t _ _ _ _ (elem_of et), run_slice_h w t s.a s.len s.cap (elem_of et) k h h0 h2, run_size et]
  rfl
/-- s[l:] -/
theorem RunN.subL {t e : TypeId} {sz by_ : Nat} (et : ET P t e sz by_) {s : Sl} {k : IntKind} {l : Int} (h0 : 0 ≤ l) (h2 : l ≤ s.len) {K : Sl → World → Prop}
    (hk : K ⟨if s.cap = l.toNat then s.a else s.a.map (·.add (l.toNat * sz)), s.len - l.toNat, s.cap - l.toNat⟩ w) : RunN P .sl (V (Instr.sliceAt t (.slice s.a s.len s.cap) (some (.int k l)) none none)) w K := by
  refine RunN.of (kd := .sl) ?_ hk
  rw [run_sliceAt_slice w t _ _ _ _ (elem_of et), run_slice_l w t s.a s.len s.cap (elem_of et) k l h0 h2, run_size et]
  rfl
/-- s[l:h:m] -/
theorem RunN.subLHM {t e : TypeId} {sz by_ : Nat} (et : ET P t e sz by_) {s : Sl} {kl kh km : IntKind} {l h m : Int} (h0 : 0 ≤ l) (h1 : l ≤ h) (h2 : h ≤ m) (h3 : m ≤ s.cap) {K : Sl → World → Prop}
    (hk : K ⟨if m.toNat = l.toNat then s.a else s.a.map (·.add (l.toNat * sz)), h.toNat - l.toNat, m.toNat - l.toNat⟩ w) : RunN P .sl (V (Instr.sliceAt t (.slice s.a s.len s.cap) (some (.int kl l)) (some (.int kh h)) (some (.int km m)))) w K := by
  refine RunN.of (kd := .sl) ?_ hk
  rw [run_sliceAt_slice w t _ _ _ _ (elem_of et), run_slice_lhm w t s.a s.len s.cap (elem_of et) kl kh km l h m h0 h1 h2 h3, run_size et]
  rfl
end
end Go.Fw

/- A store into memory that is owned. -/
namespace Go.Fw
open Go Go.RowKit

/-- A place of an owned slice: what it holds, that it may be written, and what is owned then. -/
theorem Ow.place {w : World} {base : Nat} {E : TypeId} {sz : Nat} {s : Sl} {vs : List Value} (h : Ow w base E sz s vs) {i : Nat} (hi : i < vs.length) :
    ∃ g o, s.a = some ⟨g, o, none⟩ ∧ s.blk = some g ∧ w.frozen? ⟨g, o + i, none⟩ = false ∧ w.cell? ⟨g, o + i, none⟩ = some vs[i] ∧
      ∀ v, Ow (w.setCell ⟨g, o + i, none⟩ v) base E sz s (vs.set i v) := by
  have hl := h.1
  rcases h.2 with rfl | ⟨g, o, cs, ha, hb, hg, h1, h2, h3, h4⟩
  · simp at hl; simp [hl] at hi
  have hle : s.len * sz ≤ s.cap * sz := Nat.mul_le_mul_right _ h1
  have hcl : o + i < cs.length := by omega
  refine ⟨g, o, ha, by simp [Sl.blk, ha], ?_, ?_, fun v => ⟨by simp [hl], .inr ⟨g, o, cs.set (o + i) v, ha, hb, ?_, h1, h2, by simpa using h3, ?_⟩⟩⟩
  · unfold World.frozen?
    simp only [hg]
    simp
  · rw [cell_of_row w g _ ⟨cs⟩ E (0, 0) hg]
    have : vs[i]? = some vs[i] := List.getElem?_eq_getElem hi
    rw [← this]
    conv => rhs; rw [← h4]
    rw [List.getElem?_take, if_pos (by omega), List.getElem?_drop]; simp
  · unfold World.setCell
    have := (Array.getElem?_eq_some_iff.1 hg)
    obtain ⟨hlt, hge⟩ := this
    simp only [Array.getElem?_modify, if_pos, hg, Option.map_some, Option.isSome_none, Bool.false_eq_true, if_false]
    simp [Array.setIfInBounds, hcl]
  · rw [List.drop_set, if_neg (by omega), Nat.add_sub_cancel_left, List.take_set, h4]
end Go.Fw

/- Variables and rows in memory: what is loaded, stored, copied, cleared. -/
namespace Go.Fw
open Go Go.RowKit
set_option linter.unusedVariables false

/-- A block of cells. -/
def Blk (w : World) (b : Nat) (t : TypeId) (cs : List Value) : Prop := w.heap[b]? = some (.cells ⟨cs⟩ t (0, 0))
theorem Blk.cell {w : World} {b : Nat} {t : TypeId} {cs : List Value} (h : Blk w b t cs) (i : Nat) : w.cell? ⟨b, i, none⟩ = cs[i]? := by
  rw [cell_of_row w b _ ⟨cs⟩ t (0, 0) h]; simp
theorem Blk.lt {w : World} {b : Nat} {t : TypeId} {cs : List Value} (h : Blk w b t cs) : b < w.heap.size := lt_of_obj h
theorem Blk.frozen {w : World} {b : Nat} {t : TypeId} {cs : List Value} (h : Blk w b t cs) (i : Nat) : w.frozen? ⟨b, i, none⟩ = false := by
  unfold World.frozen?
  simp only [show w.heap[(⟨b, i, none⟩ : Addr).block]? = _ from h]; simp
theorem Blk.upd {w w' : World} {S : Nat → Prop} {b : Nat} {t : TypeId} {cs : List Value} (h : Blk w b t cs) (hu : Upd w w' S) (hs : ¬ S b) : Blk w' b t cs := hu.obj h hs
theorem Blk.new (w : World) (t : TypeId) (cs : List Value) : Blk (w.alloc (.cells ⟨cs⟩ t)) w.heap.size t cs := heap_alloc_new w _
theorem Blk.set {w : World} {b : Nat} {t : TypeId} {cs : List Value} (h : Blk w b t cs) (i : Nat) (v : Value) : Blk (w.setCell ⟨b, i, none⟩ v) b t (cs.set i v) := by
  unfold Blk World.setCell
  have hb : w.heap[b]? = some (.cells ⟨cs⟩ t (0, 0)) := h
  simp only [Array.getElem?_modify, if_pos, hb, Option.map_some, Option.isSome_none, Bool.false_eq_true, if_false]
  by_cases hi : i < cs.length
  · simp [Array.setIfInBounds, hi]
  · rw [List.set_eq_of_length_le (by omega)]
    simp [Array.setIfInBounds, hi]
theorem Blk.row {w : World} {b : Nat} {t : TypeId} {cs : List Value} (h : Blk w b t cs) (ds : List Value) : Blk (w.setRow b ds.toArray) b t ds := setRow_heap w b _ _ t _ h

section
variable {P : Program} {w : World}
def aggB (P : Program) (t : TypeId) (n : Nat) : Bool :=
  match P.underlying t with
  | some (.struct _) => (match P.info? t with | some i => Nat.beq i.size n | none => false)
  | some (.array _ _) => (match P.info? t with | some i => Nat.beq i.size n | none => false)
  | _ => false
theorem aggB_spec {t : TypeId} {n : Nat} (h : aggB P t n = true) : ((isAgg t).run P w = .ok true w) ∧ (sizeOf t).run P w = .ok n w := by
  unfold aggB at h
  have key : ∀ i, P.info? t = some i → Nat.beq i.size n = true → (sizeOf t).run P w = .ok n w := by
    intro i hi hn
    have := Nat.eq_of_beq_eq_true hn
    simp [sizeOf, typeInfo, hi, this]
  split at h
  · rename_i fs hu
    split at h
    · rename_i i hi
      exact ⟨by simp [isAgg, run_underlying hu], key i hi h⟩
    · cases h
  · rename_i m e hu
    split at h
    · rename_i i hi
      exact ⟨by simp [isAgg, run_underlying hu], key i hi h⟩
    · cases h
  · cases h
theorem run_loadAgg {t : TypeId} {n : Nat} (ht : aggB P t n = true) {b o : Nat} {cs : List Value} (hn : cs.length = n) (hc : ∀ i v, cs[i]? = some v → w.cell? ⟨b, o + i, none⟩ = some v) :
    (Instr.loadAt t (.pointer (some ⟨b, o, none⟩))).run P w = .ok (.agg ⟨cs⟩) w := by
  obtain ⟨h1, h2⟩ := aggB_spec (w := w) ht
  have hl := run_loadCells_list (P := P) w ⟨b, o, none⟩ cs (fun j u hu => by rw [add_lit']; exact hc j u hu)
  rw [hn] at hl
  simp [Instr.loadAt, Instr.sureAddr, loadVar, h1, h2, hl]
theorem Blk.load {t t' : TypeId} {n : Nat} (ht : aggB P t n = true) {b : Nat} {cs : List Value} (h : Blk w b t' cs) (hn : cs.length = n) : (Instr.loadAt t (.pointer (some ⟨b, 0, none⟩))).run P w = .ok (.agg ⟨cs⟩) w :=
  run_loadAgg ht hn fun i v hv => by rw [Nat.zero_add, h.cell]; exact hv
theorem Rd.load {t : TypeId} {n : Nat} (ht : aggB P t n = true) {s : Sl} {vs : List Value} (h : Rd w s n vs) {b o : Nat} (ha : s.a = some ⟨b, o, none⟩) {i : Nat} (hi : i < s.len) :
    (Instr.loadAt t (.pointer (some ⟨b, o + i * n, none⟩))).run P w = .ok (.agg ⟨(vs.drop (i * n)).take n⟩) w := by
  have hle : (i + 1) * n ≤ s.len * n := Nat.mul_le_mul_right _ hi
  rw [Nat.add_mul, Nat.one_mul] at hle
  have hl := h.1
  refine run_loadAgg ht (by simp; omega) fun j v hv => ?_
  rw [List.getElem?_take] at hv
  split at hv
  · rw [List.getElem?_drop] at hv
    rcases h.2.1 with h0 | ⟨b', o', ha', hc⟩
    · subst h0; simp at hv
    · rw [ha] at ha'; cases ha'
      rw [Nat.add_assoc]; exact hc _ v hv
  · cases hv

theorem run_storAgg {t : TypeId} {n : Nat} (ht : aggB P t n = true) {b o : Nat} {cs : List Value} (hn : cs.length = n) {w' : World} (hs : (storeCells ⟨b, o, none⟩ cs 0).run P w = .ok () w') :
    (Instr.storeAt t (.pointer (some ⟨b, o, none⟩)) (.agg ⟨cs⟩)).run P w = .ok () w' := by
  obtain ⟨h1, h2⟩ := aggB_spec (w := w) ht
  simp [Instr.storeAt, Instr.sureAddr, storeVar, Value.cells, h2, hn, hs]
theorem Blk.store {b : Nat} {t : TypeId} {cs : List Value} (h : Blk w b t cs) {o : Nat} {news : List Value} (hfit : o + news.length ≤ cs.length) (h1 : ∀ v ∈ news, v.oneCell' = true) :
    (storeCells ⟨b, o, none⟩ news 0).run P w = .ok () (w.setRow b (cs.take o ++ news ++ cs.drop (o + news.length)).toArray) := by
  have := run_storeCells_at P b o t news 0 ⟨cs⟩ w h (by simpa using hfit) h1
  simpa using this
/-- Store a whole variable. -/
theorem Blk.stor {t t' : TypeId} {n : Nat} (ht : aggB P t n = true) {b : Nat} {cs ds : List Value} (h : Blk w b t' cs) (hc : cs.length = n) (hd : ds.length = n) (h1 : ∀ v ∈ ds, v.oneCell' = true) :
    (Instr.storeAt t (.pointer (some ⟨b, 0, none⟩)) (.agg ⟨ds⟩)).run P w = .ok () (w.setRow b ds.toArray) := by
  have := Blk.store (P := P) h (o := 0) (news := ds) (by omega) h1
  rw [List.take_zero, List.nil_append, Nat.zero_add, List.drop_of_length_le (by omega), List.append_nil] at this
  exact run_storAgg ht hd this

/-- Some cells of an owned row are written. -/
theorem Ow.write {base : Nat} {E : TypeId} {sz : Nat} {s : Sl} {vs : List Value} (h : Ow w base E sz s vs) {i : Nat} {news : List Value} (hi : i + news.length ≤ vs.length) (hne : news ≠ []) (h1 : ∀ v ∈ news, v.oneCell' = true) :
    ∃ g o, s.a = some ⟨g, o, none⟩ ∧ s.blk = some g ∧ ∃ w', (storeCells ⟨g, o + i, none⟩ news 0).run P w = .ok () w' ∧ Ow w' base E sz s (vs.take i ++ news ++ vs.drop (i + news.length)) ∧ Upd w w' (fun k => k = g) := by
  have hl := h.1
  rcases h.2 with rfl | ⟨g, o, cs, ha, hb, hg, h2, h3, h4, h5⟩
  · have hv : vs.length = 0 := by rw [hl]; simp
    have : news.length = 0 := by omega
    exact absurd (List.eq_nil_of_length_eq_zero this) hne
  have hle : s.len * sz ≤ s.cap * sz := Nat.mul_le_mul_right _ h2
  have hst := Blk.store (P := P) (w := w) (b := g) (t := E) (cs := cs) hg (o := o + i) (news := news) (by omega) h1
  refine ⟨g, o, ha, by simp [Sl.blk, ha], _, hst, ⟨by simp; omega, .inr ⟨g, o, _, ha, hb, setRow_heap w g ⟨cs⟩ _ E _ hg, h2, h3, by simp; omega, ?_⟩⟩, Upd.setRow _ _ _ rfl⟩
  have hlen1 : (cs.take (o + i)).length = o + i := by simp; omega
  rw [List.append_assoc, List.drop_append_of_le_length (by rw [hlen1]; omega), List.drop_take]
  have e1 : o + i - o = i := by omega
  rw [e1]
  have e2 : (cs.drop o).take i = vs.take i := by rw [← h5, List.take_take]; congr 1; omega
  rw [e2]
  have hlen2 : (vs.take i).length = i := by simp; omega
  rw [List.take_append, hlen2, List.take_of_length_le (by omega), List.append_assoc]
  congr 1
  rw [List.take_append, List.take_of_length_le (by omega)]
  congr 1
  rw [← h5, List.drop_take, List.drop_drop]
  congr 1
  · omega
  · congr 1; omega

/-- s[l:h] -/
theorem run_subLH {t e : TypeId} {sz by_ : Nat} (et : ET P t e sz by_) {s : Sl} {kl kh : IntKind} {l h : Int} (h0 : 0 ≤ l) (h1 : l ≤ h) (h2 : h ≤ s.cap) :
    (Instr.sliceAt t (.slice s.a s.len s.cap) (some (.int kl l)) (some (.int kh h)) none).run P w = .ok (.slice (if s.cap = l.toNat then s.a else s.a.map (·.add (l.toNat * sz))) (h.toNat - l.toNat) (s.cap - l.toNat)) w := by
  rw [run_sliceAt_slice w t _ _ _ _ (elem_of et), run_slice_lh w t s.a s.len s.cap (elem_of et) kl kh l h h0 h1 h2, run_size et]
  rfl
theorem run_subL {t e : TypeId} {sz by_ : Nat} (et : ET P t e sz by_) {s : Sl} {k : IntKind} {l : Int} (h0 : 0 ≤ l) (h2 : l ≤ s.len) :
    (Instr.sliceAt t (.slice s.a s.len s.cap) (some (.int k l)) none none).run P w = .ok (.slice (if s.cap = l.toNat then s.a else s.a.map (·.add (l.toNat * sz))) (s.len - l.toNat) (s.cap - l.toNat)) w := by
  rw [run_sliceAt_slice w t _ _ _ _ (elem_of et), run_slice_l w t s.a s.len s.cap (elem_of et) k l h0 h2, run_size et]
  rfl
theorem run_subH {t e : TypeId} {sz by_ : Nat} (et : ET P t e sz by_) {s : Sl} {k : IntKind} {h : Int} (h0 : 0 ≤ h) (h2 : h ≤ s.cap) :
    (Instr.sliceAt t (.slice s.a s.len s.cap) none (some (.int k h)) none).run P w = .ok (.slice (if s.cap = 0 then s.a else s.a.map (·.add (0 * sz))) h.toNat s.cap) w := by
  rw [run_sliceAt_slice w t _ _ _ _ (elem_of et), run_slice_h w t s.a s.len s.cap (elem_of et) k h h0 h2, run_size et]
  rfl

theorem Rd.loads {sz : Nat} {s : Sl} {vs : List Value} (h : Rd w s sz vs) {n : Nat} (hn : n ≤ s.len) (hne : 0 < n * sz) : ∃ b o, s.a = some ⟨b, o, none⟩ ∧ (loadCells ⟨b, o, none⟩ (n * sz)).run P w = .ok (vs.take (n * sz)).toArray w := by
  have hle : n * sz ≤ s.len * sz := Nat.mul_le_mul_right _ hn
  have hl := h.1
  rcases h.2.1 with h0 | ⟨b, o, ha, hc⟩
  · subst h0; simp at hl; omega
  · refine ⟨b, o, ha, ?_⟩
    have hlen : (vs.take (n * sz)).length = n * sz := by simp; omega
    have := run_loadCells_list (P := P) w ⟨b, o, none⟩ (vs.take (n * sz)) (fun j u hu => by
      rw [add_lit']
      rw [List.getElem?_take] at hu
      split at hu
      · exact hc j u hu
      · cases hu)
    rw [hlen] at this; exact this

/-- copy, into a part of an owned row, of whatever may be read, be it of the same row. -/
theorem run_copyOw {base : Nat} {t ts ty e : TypeId} {sz by_ : Nat} (et : ET P t e sz by_) (ets : (P.underlying ts).isSome = true) (hsz : 0 < sz) {s : Sl} {vs : List Value} (ho : Ow w base e sz s vs) {i dl dc : Nat} {da : Option Addr}
    (hda : ∀ g o, s.a = some ⟨g, o, none⟩ → 0 < dl → da = some ⟨g, o + i * sz, none⟩) (hdl : i + dl ≤ s.len) {src : Sl} {ws : List Value} (hr : Rd w src sz ws) (h1 : ∀ v ∈ ws, v.oneCell' = true) :
    ∃ w', (Builtin.copy_ #[t, ts] ty #[.slice da dl dc, .slice src.a src.len src.cap]).run P w = .ok (.int .i64 (Nat.min src.len dl : Nat)) w' ∧
      Ow w' base e sz s (vs.take (i * sz) ++ ws.take (Nat.min src.len dl * sz) ++ vs.drop ((i + Nat.min src.len dl) * sz)) ∧ Upd w w' (fun k => s.blk = some k) := by
  obtain ⟨j, z, hi, hz, h2, h3, h4⟩ := et.hi
  have hmin1 : Nat.min src.len dl ≤ src.len := Nat.min_le_left _ _
  have hmin2 : Nat.min src.len dl ≤ dl := Nat.min_le_right _ _
  generalize hn : Nat.min src.len dl = n at *
  have hgo : goInt n = (.int .i64 (n : Int) : Value) := rfl
  by_cases h0 : n = 0
  · subst h0
    refine ⟨w, ?_, ?_, Upd.refl _ _⟩
    · have hfc : (Builtin.firstCells sz 0 (.slice src.a src.len src.cap)).run P w = .ok #[] w := by
        cases src.a <;> simp [Builtin.firstCells, loadCells, loadCellsFrom]
      cases da <;> simp [Builtin.copy_, run_underlying et.ht, Builtin.lenOf, sizeOf, typeInfo, hi, h2, hn, hfc, storeCells] <;> rfl
    · simp only [Nat.zero_mul, List.take_zero, List.append_nil, Nat.add_zero, List.take_append_drop]; exact ho
  · have hpos : 0 < n * sz := Nat.mul_pos (by omega) hsz
    obtain ⟨b, o, ha, hl⟩ := hr.loads (P := P) (n := n) (by omega) hpos
    have hlw : (ws.take (n * sz)).length = n * sz := by
      have h5 := hr.1
      have h6 : n * sz ≤ src.len * sz := Nat.mul_le_mul_right _ hmin1
      simp; omega
    have hlv := ho.1
    have hfit : (i + n) * sz ≤ s.len * sz := Nat.mul_le_mul_right _ (by omega)
    rw [Nat.add_mul] at hfit
    obtain ⟨g, o', hsa, hblk, w', hst, how, hup⟩ := ho.write (P := P) (i := i * sz) (news := ws.take (n * sz)) (by omega) (by intro e; rw [e] at hlw; simp at hlw; omega) (fun v hv => h1 v (List.mem_of_mem_take hv))
    have hd := hda g o' hsa (by omega)
    refine ⟨w', ?_, ?_, hup.mono fun k _ hk => by rw [hblk, hk]⟩
    · rw [hd, ha]
      simp [Builtin.copy_, run_underlying et.ht, Builtin.lenOf, Builtin.firstCells, sizeOf, typeInfo, hi, h2, hn, hl, hst, hgo]
    · rw [hlw, ← Nat.add_mul] at how; exact how

/-- clear, of the end of an owned row. -/
theorem run_clearOw {base : Nat} {t ty e : TypeId} {sz by_ : Nat} (et : ET P t e sz by_) {s : Sl} {vs : List Value} (ho : Ow w base e sz s vs) {i n c : Nat} {a : Option Addr} {zs : List Value} (hz : (do pure (Builtin.zeroCells (← zeroValue e).cells n).toList : Sem (List Value)).run P w = .ok zs w)
    (hzl : zs.length = n * sz) (hz1 : ∀ v ∈ zs, v.oneCell' = true) (hn : 0 < n * sz) (ha : ∀ g o, s.a = some ⟨g, o, none⟩ → a = some ⟨g, o + i * sz, none⟩) (hfit : i + n ≤ s.len) :
    ∃ w', (Builtin.clear_ #[t] ty #[.slice a n c]).run P w = .ok (.tuple #[]) w' ∧ Ow w' base e sz s (vs.take (i * sz) ++ zs ++ vs.drop ((i + n) * sz)) ∧ Upd w w' (fun k => s.blk = some k) := by
  have hlv := ho.1
  have hfit' : (i + n) * sz ≤ s.len * sz := Nat.mul_le_mul_right _ hfit
  rw [Nat.add_mul] at hfit'
  obtain ⟨g, o', hsa, hblk, w', hst, how, hup⟩ := ho.write (P := P) (i := i * sz) (news := zs) (by omega) (by intro e; rw [e] at hzl; simp at hzl; omega) hz1
  have hd := ha g o' hsa
  refine ⟨w', ?_, ?_, hup.mono fun k _ hk => by rw [hblk, hk]⟩
  · rw [hd]
    have hn0 : n ≠ 0 := by intro e; subst e; simp at hn
    obtain ⟨m, rfl⟩ : ∃ m, n = m + 1 := ⟨n - 1, by omega⟩
    simp only [Sem.run_bind] at hz
    cases hq : (zeroValue e).run P w with
    | ok v w1 =>
      rw [hq] at hz
      simp at hz
      obtain ⟨hz, rfl⟩ := hz
      simp [Builtin.clear_, run_underlying et.ht, hq, hz, hst]
    | _ => rw [hq] at hz; simp at hz
  · rw [hzl, ← Nat.add_mul] at how; exact how
/-- A shorter view of an owned row, from its beginning. -/
theorem Ow.shorter {base : Nat} {E : TypeId} {sz : Nat} {s : Sl} {vs : List Value} (h : Ow w base E sz s vs) {n : Nat} (hn : n ≤ s.len) {a : Option Addr} (ha : a = s.a) : Ow w base E sz ⟨a, n, s.cap⟩ (vs.take (n * sz)) := by
  subst ha
  have hle : n * sz ≤ s.len * sz := Nat.mul_le_mul_right _ hn
  have hl := h.1
  refine ⟨by simp; omega, ?_⟩
  rcases h.2 with rfl | ⟨g, o, cs, ha, hb, hg, h2, h3, h4, h5⟩
  · left; simp at hn; subst hn; rfl
  · right
    refine ⟨g, o, cs, ha, hb, hg, by dsimp only; omega, h3, h4, ?_⟩
    rw [← h5, List.take_take]; congr 1; dsimp only; omega

/-! ### in continuation style -/
theorem RunU.storB {t t' : TypeId} (ht : scB P t = true) {b i : Nat} {cs : List Value} (h : Blk w b t' cs) (hi : i < cs.length) {v : Value} (hv : v.oneCell' = true) {K : World → Prop} (hk : ∀ w', Blk w' b t' (cs.set i v) → Upd w w' (fun k => k = b) → K w') :
    RunU P (U (Instr.storeAt t (.pointer (some ⟨b, i, none⟩)) v)) w K :=
  RunU.stor ht hv (by rw [h.cell, List.getElem?_eq_getElem hi]) (h.frozen i) (hk _ (h.set i v) (Upd.setCell _ _ _ rfl))
theorem RunU.storA {t t' : TypeId} {n : Nat} (ht : aggB P t n = true) {b : Nat} {cs ds : List Value} (h : Blk w b t' cs) (hc : cs.length = n) (hd : ds.length = n) (h1 : ∀ v ∈ ds, v.oneCell' = true) {K : World → Prop} (hk : ∀ w', Blk w' b t' ds → Upd w w' (fun k => k = b) → K w') :
    RunU P (U (Instr.storeAt t (.pointer (some ⟨b, 0, none⟩)) (.agg ⟨ds⟩))) w K :=
  RunU.of (h.stor ht hc hd h1) (hk _ (h.row ds) (Upd.setRow _ _ _ rfl))
theorem RunN.loadB {t t' : TypeId} (ht : scB P t = true) {kd : Kd} {b i : Nat} {cs : List Value} (h : Blk w b t' cs) {x : kd.T} (hi : cs[i]? = some (kd.val x)) {K : kd.T → World → Prop} (hk : K x w) : RunN P kd (V (Instr.loadAt t (.pointer (some ⟨b, i, none⟩)))) w K :=
  RunN.load ht (by rw [h.cell]; exact hi) hk
theorem ReadN.loadB {t t' : TypeId} (ht : scB P t = true) {kd : Kd} {b i : Nat} {cs : List Value} (h : Blk w b t' cs) {x : kd.T} (hi : cs[i]? = some (kd.val x)) {K : kd.T → Prop} (hk : K x) : ReadN P kd (V (Instr.loadAt t (.pointer (some ⟨b, i, none⟩)))) w K :=
  ReadN.load ht (by rw [h.cell]; exact hi) hk
theorem RunN.loadA {t t' : TypeId} {n : Nat} (ht : aggB P t n = true) {kd : Kd} {b : Nat} {cs : List Value} (h : Blk w b t' cs) (hn : cs.length = n) {x : kd.T} (hx : kd.val x = .agg ⟨cs⟩) {K : kd.T → World → Prop} (hk : K x w) : RunN P kd (V (Instr.loadAt t (.pointer (some ⟨b, 0, none⟩)))) w K :=
  RunN.of (by rw [hx]; exact h.load ht hn) hk
theorem ReadN.loadA {t t' : TypeId} {n : Nat} (ht : aggB P t n = true) {kd : Kd} {b : Nat} {cs : List Value} (h : Blk w b t' cs) (hn : cs.length = n) {x : kd.T} (hx : kd.val x = .agg ⟨cs⟩) {K : kd.T → Prop} (hk : K x) : ReadN P kd (V (Instr.loadAt t (.pointer (some ⟨b, 0, none⟩)))) w K :=
  ReadN.of (by rw [hx]; exact h.load ht hn) hk
theorem StillV.loadB {t t' : TypeId} (ht : scB P t = true) {b i : Nat} {cs : List Value} (h : Blk w b t' cs) {v : Value} (hi : cs[i]? = some v) : StillV P (V (Instr.loadAt t (.pointer (some ⟨b, i, none⟩)))) v w :=
  StillV.load ht (by rw [h.cell]; exact hi)
theorem StillV.loadA {t t' : TypeId} {n : Nat} (ht : aggB P t n = true) {b : Nat} {cs : List Value} (h : Blk w b t' cs) (hn : cs.length = n) : StillV P (V (Instr.loadAt t (.pointer (some ⟨b, 0, none⟩)))) (.agg ⟨cs⟩) w :=
  StillV.of (h.load ht hn)
/-- A new variable, whose law is known by computation. -/
theorem RunN.newB {s : Sem Value} {cs : List Value} {t : TypeId} (hr : s.run P w = .ok (.pointer (some ⟨w.heap.size, 0, none⟩)) (w.alloc (.cells ⟨cs⟩ t))) {K : Addr → World → Prop}
    (hk : ∀ w', Blk w' w.heap.size t cs → Upd w w' nobody → w'.heap.size = w.heap.size + 1 → K ⟨w.heap.size, 0, none⟩ w') : RunN P .addr (V s) w K :=
  RunN.of (kd := .addr) (x := ⟨w.heap.size, 0, none⟩) hr (hk _ (Blk.new _ _ _) (Upd.alloc _ _ _) (by simp))
/-- A new literal row. -/
theorem RunN.newS {base : Nat} {s : Sem Value} {cs : List Value} {t : TypeId} {n sz : Nat} (hr : s.run P w = .ok (.slice (some ⟨w.heap.size, 0, none⟩) n n) (w.alloc (.cells ⟨cs⟩ t))) (hb : base ≤ w.heap.size) (hn : n ≤ maxLen) (hl : cs.length = n * sz) {K : Sl → World → Prop}
    (hk : ∀ w', Ow w' base t sz ⟨some ⟨w.heap.size, 0, none⟩, n, n⟩ cs → Upd w w' nobody → w'.heap.size = w.heap.size + 1 → K ⟨some ⟨w.heap.size, 0, none⟩, n, n⟩ w') : RunN P .sl (V s) w K := by
  refine RunN.of (kd := .sl) (x := ⟨some ⟨w.heap.size, 0, none⟩, n, n⟩) hr (hk _ ?_ (Upd.alloc _ _ _) (by simp))
  have := Ow.lit (w := w) (e := t) hb (Nat.le_refl n) hn hl
  rwa [List.take_of_length_le (by omega)] at this
/-- Onto what is owned, or nil. -/
theorem RunN.appO {base : Nat} {t tx ty e : TypeId} {sz by_ : Nat} (et : ET P t e sz by_) (etx : ∃ e' , ET P tx e' sz by_) (hsz : 0 < sz) {s : Sl} {xs : List Value} (ho : Ow w base e sz s xs) {p : Sl} {news : List Value} (hr : Rd w p sz news) (h1 : ∀ v ∈ news, v.oneCell' = true)
    (hbase : base ≤ w.heap.size) (h63 : s.len + p.len ≤ maxLen) (hfit : (s.len + p.len) * by_ ≤ 140737488355328) {K : Sl → World → Prop}
    (h : ∀ s' w', s'.len = s.len + p.len → Ow w' base e sz s' (xs ++ news) → Upd w w' (fun k => s.blk = some k) → (s'.blk = s.blk ∨ ∃ g, s'.blk = some g ∧ w.heap.size ≤ g ∧ g < w'.heap.size) → K s' w') :
    RunN P .sl (V (Builtin.append_ #[t, tx] ty #[.slice s.a s.len s.cap, .slice p.a p.len p.cap])) w K := by
  obtain ⟨e', etx⟩ := etx
  exact RunN.app et hsz ho (Src.ofRd etx hsz hr h1) hbase h63 hfit h
/-- A copy: onto nil. -/
theorem RunN.appNil {t tx ty e : TypeId} {sz by_ : Nat} (et : ET P t e sz by_) (etx : ∃ e' , ET P tx e' sz by_) (hsz : 0 < sz) {p : Sl} {news : List Value} (hr : Rd w p sz news) (h1 : ∀ v ∈ news, v.oneCell' = true)
    (h63 : p.len ≤ maxLen) (hfit : p.len * by_ ≤ 140737488355328) {K : Sl → World → Prop}
    (h : ∀ s' w', s'.len = p.len → Ow w' w.heap.size e sz s' news → Upd w w' nobody → K s' w') :
    RunN P .sl (V (Builtin.append_ #[t, tx] ty #[.slice none 0 0, .slice p.a p.len p.cap])) w K :=
  RunN.appO et etx hsz (s := ⟨none, 0, 0⟩) (Ow.nil w w.heap.size e sz) hr h1 (Nat.le_refl _) (by dsimp only; omega) (by dsimp only; rw [Nat.zero_add]; exact hfit)
    fun s' w' h1 h2 h3 _ => h s' w' (by dsimp only at h1; omega) (by rwa [List.nil_append] at h2) (h3.mono fun i _ h => by simp [Sl.blk] at h)
theorem Upd.fresh {a b c : World} {S : Nat → Prop} (h : Upd a b nobody) (k : Upd b c S) (hS : ∀ i, S i → a.heap.size ≤ i) : Upd a c nobody := h.trans' k fun i hi hlt => absurd (hS i hi) (by omega)
theorem Upd.none {a b : World} (h : Upd a b nobody) (S : Nat → Prop) : Upd a b S := h.mono fun _ _ h => h.elim
end
end Go.Fw

/- Memory of one's own as a list of groups: one hypothesis carries all of it from step to step. -/
set_option linter.unusedVariables false
set_option linter.unusedSimpArgs false
namespace Go.Fw
open Go Go.RowKit

/-- A piece of memory: a block of cells, or a slice that is owned up to its capacity. -/
inductive Ent where
  | cel (b : Nat) (t : TypeId) (cs : List Value)
  | row (E : TypeId) (sz : Nat) (s : Sl) (vs : List Value)
  | ro (s : Sl) (sz : Nat) (vs : List Value)
  | obj (b : Nat) (o : Obj)
def Ent.blk : Ent → Option Nat
  | .cel b _ _ => some b
  | .row _ _ s _ => s.blk
  | .ro s _ _ => s.blk
  | .obj b _ => some b
def Ent.vals : Ent → List Value
  | .cel _ _ cs => cs
  | .row _ _ _ vs => vs
  | .ro _ _ vs => vs
  | .obj _ _ => []
def Ent.okM (w : World) (base : Nat) : Ent → Prop
  | .cel b t cs => base ≤ b ∧ Blk w b t cs
  | .row E sz s vs => Ow w base E sz s vs
  | .ro s sz vs => (∀ b, s.blk = some b → base ≤ b ∧ b < w.heap.size) ∧ Rd w s sz vs
  | .obj b o => base ≤ b ∧ w.heap[b]? = some o
def Ent.ok (w : World) (base : Nat) (e : Ent) : Prop := e.okM w base ∧ ∀ v ∈ e.vals, v.oneCell' = true
def Ent.Ap (a b : Ent) : Prop := ∀ k, a.blk = some k → b.blk ≠ some k
theorem Ent.Ap.symm {a b : Ent} (h : a.Ap b) : b.Ap a := fun k hb ha => h k ha hb
theorem Ent.ok.lt {w : World} {base : Nat} {e : Ent} (h : e.ok w base) {k : Nat} (hk : e.blk = some k) : base ≤ k ∧ k < w.heap.size := by
  cases e with
  | cel b t cs => simp [Ent.blk] at hk; subst hk; exact ⟨h.1.1, h.1.2.lt⟩
  | row E sz s vs => exact Ow.lt h.1 hk
  | ro s sz vs => exact h.1.1 k hk
  | obj b o => simp [Ent.blk] at hk; subst hk; exact ⟨h.1.1, lt_of_obj h.1.2⟩
theorem Ent.ok.upd {w w' : World} {S : Nat → Prop} {base : Nat} {e : Ent} (h : e.ok w base) (hu : Upd w w' S) (hs : ∀ k, e.blk = some k → ¬ S k) : e.ok w' base := by
  refine ⟨?_, h.2⟩
  cases e with
  | cel b t cs => exact ⟨h.1.1, h.1.2.upd hu (hs b rfl)⟩
  | row E sz s vs => exact Ow.upd h.1 hu hs
  | ro s sz vs => exact ⟨fun b hb => ⟨(h.1.1 b hb).1, Nat.lt_of_lt_of_le (h.1.1 b hb).2 hu.size⟩, h.1.2.upd hu hs⟩
  | obj b o => exact ⟨h.1.1, hu.obj h.1.2 (hs b rfl)⟩

structure Fl (w0 w : World) (l : List Ent) : Prop where
  upd : Upd w0 w nobody
  ok : ∀ e ∈ l, e.ok w w0.heap.size
  ap : l.Pairwise Ent.Ap
theorem Fl.perm {w0 w : World} {l l' : List Ent} (h : Fl w0 w l) (p : l.Perm l') : Fl w0 w l' :=
  ⟨h.upd, fun e he => h.ok e (p.mem_iff.2 he), h.ap.perm p Ent.Ap.symm⟩
theorem Fl.change {w0 w w' : World} {e : Ent} {es A : List Ent} (h : Fl w0 w (e :: A)) (hu : Upd w w' (fun j => e.blk = some j)) (hok : ∀ e' ∈ es, e'.ok w' w0.heap.size) (hap : es.Pairwise Ent.Ap)
    (hb : ∀ e' ∈ es, ∀ j, e'.blk = some j → e.blk = some j ∨ w.heap.size ≤ j) : Fl w0 w' (es ++ A) := by
  have hA := (List.pairwise_cons.1 h.ap)
  refine ⟨h.upd.fresh hu fun i hi => ((h.ok e (List.mem_cons_self ..)).lt hi).1, fun e'' he => ?_, ?_⟩
  · rcases List.mem_append.1 he with he | he
    · exact hok _ he
    · exact (h.ok e'' (List.mem_cons_of_mem _ he)).upd hu fun k hk hek => hA.1 e'' he k hek hk
  · refine List.pairwise_append.2 ⟨hap, hA.2, fun a ha b hb' k hk hbk => ?_⟩
    rcases hb a ha k hk with h1 | h1
    · exact hA.1 b hb' k h1 hbk
    · have := ((h.ok b (List.mem_cons_of_mem _ hb')).lt hbk).2; omega
theorem Fl.keep {w0 w w' : World} {A : List Ent} (h : Fl w0 w A) (hu : Upd w w' nobody) : Fl w0 w' A :=
  ⟨h.upd.trans hu, fun e he => (h.ok e he).upd hu fun _ _ h => h, h.ap⟩
theorem Fl.join {w0 w w' : World} {A B : List Ent} (h : Fl w0 w A) (h' : Fl w w' B) : Fl w0 w' (B ++ A) := by
  refine ⟨h.upd.trans h'.upd, fun e he => ?_, List.pairwise_append.2 ⟨h'.ap, h.ap, fun a ha b hb k hk hbk => ?_⟩⟩
  · rcases List.mem_append.1 he with he | he
    · have h1 := h'.ok e he
      refine ⟨?_, h1.2⟩
      have hsz := h.upd.size
      cases e with
      | cel b t cs => exact ⟨Nat.le_trans hsz h1.1.1, h1.1.2⟩
      | row E sz s vs => exact Ow.base h1.1 fun b hb => Nat.le_trans hsz (Ow.lt h1.1 hb).1
      | ro s sz vs => exact ⟨fun b hb => ⟨Nat.le_trans hsz (h1.1.1 b hb).1, (h1.1.1 b hb).2⟩, h1.1.2⟩
      | obj b o => exact ⟨Nat.le_trans hsz h1.1.1, h1.1.2⟩
    · exact (h.ok e he).upd h'.upd fun _ _ h => h
  · have h1 := ((h'.ok a ha).lt hk).1
    have h2 := ((h.ok b hb).lt hbk).2
    omega

/-! ### groups -/
def nthO {α : Type} : List α → Nat → Option α
  | [], _ => none
  | x :: _, 0 => some x
  | _ :: r, n + 1 => nthO r n
def setO {α : Type} : List α → Nat → α → List α
  | [], _, _ => []
  | _ :: r, 0, y => y :: r
  | x :: r, n + 1, y => x :: setO r n y
def delO {α : Type} : List α → Nat → List α
  | [], _ => []
  | _ :: r, 0 => r
  | x :: r, n + 1 => x :: delO r n
def insO {α : Type} : Nat → List α → α → List α
  | 0, l, y => y :: l
  | _ + 1, [], y => [y]
  | n + 1, x :: r, y => x :: insO n r y
theorem nthO_perm {α : Type} : ∀ {l : List α} {n : Nat} {x : α}, nthO l n = some x → l.Perm (x :: delO l n)
  | [], _, _, h => by cases h
  | y :: r, 0, x, h => by simp [nthO] at h; subst h; exact .refl _
  | y :: r, n + 1, x, h => ((nthO_perm (l := r) h).cons y).trans (.swap _ _ _)
theorem setO_perm {α : Type} : ∀ {l : List α} {n : Nat} {x : α} (y : α), nthO l n = some x → (setO l n y).Perm (y :: delO l n)
  | [], _, _, _, h => by cases h
  | z :: r, 0, x, y, h => .refl _
  | z :: r, n + 1, x, y, h => ((setO_perm (l := r) y h).cons z).trans (.swap _ _ _)
theorem insO_perm {α : Type} : ∀ (l : List α) (n : Nat) (y : α), (insO n l y).Perm (y :: l)
  | l, 0, y => .refl _
  | [], n + 1, y => .refl _
  | z :: r, n + 1, y => ((insO_perm r n y).cons z).trans (.swap _ _ _)
theorem nthO_get {α : Type} (l : List α) (n : Nat) : nthO l n = l[n]? := by
  induction l generalizing n with
  | nil => rfl
  | cons x r ih => cases n with
    | zero => rfl
    | succ n => simpa [nthO] using ih n
theorem setO_set {α : Type} (l : List α) (n : Nat) (y : α) : setO l n y = l.set n y := by
  induction l generalizing n with
  | nil => rfl
  | cons x r ih => cases n with
    | zero => rfl
    | succ n => simpa [setO] using ih n

abbrev Grps := List (List Ent)
structure St (w0 w : World) (G : Grps) : Prop where
  fl : Fl w0 w G.flatten
/-- The i-th piece of the k-th group. -/
def Has (G : Grps) (k i : Nat) (e : Ent) : Prop := ∃ g, nthO G k = some g ∧ nthO g i = some e
def updG : Grps → Nat → Nat → List Ent → Grps
  | [], _, _, _ => []
  | g :: r, 0, i, es => (match es with | [e] => setO g i e | _ => es ++ delO g i) :: r
  | g :: r, k + 1, i, es => g :: updG r k i es
theorem updG_perm : ∀ {G : Grps} {k i : Nat} {e : Ent} (es : List Ent), Has G k i e → ∃ A, G.flatten.Perm (e :: A) ∧ (updG G k i es).flatten.Perm (es ++ A)
  | [], k, i, e, es, ⟨g, h, _⟩ => by cases h
  | g :: r, 0, i, e, es, ⟨g', h, h'⟩ => by
    simp [nthO] at h; subst h
    refine ⟨delO g i ++ r.flatten, ?_, ?_⟩
    · simp only [List.flatten_cons]
      exact (nthO_perm h').append_right _
    · simp only [updG, List.flatten_cons]
      have : (match es with | [e] => setO g i e | _ => es ++ delO g i).Perm (es ++ delO g i) := by
        split
        · exact setO_perm _ h'
        · exact .refl _
      rw [← List.append_assoc]
      exact this.append_right _
  | g :: r, k + 1, i, e, es, ⟨g', h, h'⟩ => by
    obtain ⟨A, h1, h2⟩ := updG_perm (G := r) es ⟨g', h, h'⟩
    refine ⟨g ++ A, ?_, ?_⟩
    · simp only [List.flatten_cons]
      exact (h1.append_left g).trans List.perm_middle
    · simp only [updG, List.flatten_cons]
      refine (h2.append_left g).trans ?_
      rw [← List.append_assoc, ← List.append_assoc]
      exact List.perm_append_comm.append_right _

namespace St
variable {P : Program} {w0 w w' : World} {G : Grps}

theorem init (w : World) : St w w [] := ⟨⟨Upd.refl _ _, fun e he => by simp at he, by simp⟩⟩
theorem upd (h : St w0 w G) : Upd w0 w nobody := h.fl.upd
theorem keep (h : St w0 w G) (hu : Upd w w' nobody) : St w0 w' G := ⟨h.fl.keep hu⟩
theorem drew (h : St w0 w G) : St w0 w.drew G := h.keep (Upd.drew _ _)
theorem perm {G' : Grps} (h : St w0 w G) (p : G.flatten.Perm G'.flatten) : St w0 w G' := ⟨h.fl.perm p⟩
theorem join {G' : Grps} (h : St w0 w G) (h' : St w w' G') : St w0 w' (G' ++ G) := ⟨by rw [List.flatten_append]; exact h.fl.join h'.fl⟩
theorem bring (h : St w0 w G) (k : Nat) {g : List Ent} (hk : nthO G k = some g) : St w0 w (g :: delO G k) := h.perm (nthO_perm hk).flatten
theorem back {g : List Ent} (h : St w0 w (g :: G)) (k : Nat) : St w0 w (insO k G g) := h.perm (insO_perm G k g).symm.flatten
theorem drop (h : St w0 w G) (k : Nat) : St w0 w (delO G k) := by
  cases hk : nthO G k with
  | none =>
    have : delO G k = G := by
      clear h
      induction G generalizing k with
      | nil => rfl
      | cons x r ih => cases k with
        | zero => cases hk
        | succ k => simp [delO, ih k hk]
    rw [this]; exact h
  | some g =>
    have := (h.bring k hk).fl
    rw [List.flatten_cons] at this
    exact ⟨⟨this.upd, fun e he => this.ok e (List.mem_append_right _ he), (List.pairwise_append.1 this.ap).2.1⟩⟩
theorem one {e : Ent} {g : List Ent} : St w0 w ((e :: g) :: G) ↔ St w0 w ([e] :: g :: G) := by
  constructor <;> exact fun h => h.perm (by simp)
theorem two {a b : List Ent} : St w0 w ((a ++ b) :: G) ↔ St w0 w (a :: b :: G) := by
  constructor <;> exact fun h => h.perm (by simp)
theorem empty : St w0 w ([] :: G) ↔ St w0 w G := by
  constructor <;> exact fun h => h.perm (by simp)
theorem ent (h : St w0 w G) {k i : Nat} {e : Ent} (he : Has G k i e) : e.ok w w0.heap.size := by
  obtain ⟨A, h1, _⟩ := updG_perm [] he
  exact h.fl.ok e (h1.mem_iff.2 (List.mem_cons_self ..))
theorem change (h : St w0 w G) {k i : Nat} {e : Ent} {es : List Ent} (he : Has G k i e) (hu : Upd w w' (fun j => e.blk = some j)) (hok : ∀ e' ∈ es, e'.ok w' w0.heap.size) (hap : es.Pairwise Ent.Ap)
    (hb : ∀ e' ∈ es, ∀ j, e'.blk = some j → e.blk = some j ∨ w.heap.size ≤ j) : St w0 w' (updG G k i es) := by
  obtain ⟨A, h1, h2⟩ := updG_perm es he
  exact ⟨((h.fl.perm h1).change hu hok hap hb).perm h2.symm⟩
theorem change1 (h : St w0 w G) {k i : Nat} {e e' : Ent} (he : Has G k i e) (hu : Upd w w' (fun j => e.blk = some j)) (hok : e'.ok w' w0.heap.size)
    (hb : ∀ j, e'.blk = some j → e.blk = some j ∨ w.heap.size ≤ j) : St w0 w' (updG G k i [e']) :=
  h.change he hu (fun x hx => by simp at hx; subst hx; exact hok) (by simp) (fun x hx => by simp at hx; subst hx; exact hb)
/-- A new piece. -/
theorem new (h : St w0 w G) {e : Ent} (hu : Upd w w' nobody) (hok : e.ok w' w0.heap.size) (hb : ∀ j, e.blk = some j → w.heap.size ≤ j) : St w0 w' ([e] :: G) := by
  refine ⟨?_⟩
  rw [List.flatten_cons]
  have h1 := h.fl.keep hu
  refine ⟨h1.upd, fun x hx => ?_, List.pairwise_append.2 ⟨by simp, h1.ap, fun a ha b hb' k hk hbk => ?_⟩⟩
  · rcases List.mem_append.1 hx with hx | hx
    · simp at hx; subst hx; exact hok
    · exact h1.ok x hx
  · simp at ha; subst ha
    have := hb k hk
    have := ((h.fl.ok b hb').lt hbk).2
    omega
theorem nilrow (h : St w0 w G) (E : TypeId) (sz : Nat) : St w0 w ([.row E sz ⟨none, 0, 0⟩ []] :: G) :=
  h.new (Upd.refl _ _) ⟨Ow.nil _ _ _ _, fun v hv => by simp [Ent.vals] at hv⟩ fun j hj => by simp [Ent.blk, Sl.blk] at hj

section reads
theorem blk (h : St w0 w G) {k i : Nat} {b : Nat} {t : TypeId} {cs : List Value} (he : Has G k i (.cel b t cs)) : Blk w b t cs := (h.ent he).1.2
theorem ow (h : St w0 w G) {k i : Nat} {E : TypeId} {sz : Nat} {s : Sl} {vs : List Value} (he : Has G k i (.row E sz s vs)) : Ow w w0.heap.size E sz s vs := (h.ent he).1
theorem rd (h : St w0 w G) {k i : Nat} {E : TypeId} {sz : Nat} {s : Sl} {vs : List Value} (he : Has G k i (.row E sz s vs)) : Rd w s sz vs := (h.ow he).rd
theorem rdo (h : St w0 w G) {k i : Nat} {sz : Nat} {s : Sl} {vs : List Value} (he : Has G k i (.ro s sz vs)) : Rd w s sz vs := (h.ent he).1.2
theorem one1 (h : St w0 w G) {k i : Nat} {e : Ent} (he : Has G k i e) : ∀ v ∈ e.vals, v.oneCell' = true := (h.ent he).2
/-- What was there at first reads so still. -/
theorem old (h : St w0 w G) {s : Sl} {sz : Nat} {vs : List Value} (hr : Rd w0 s sz vs) : Rd w s sz vs := hr.upd h.upd fun _ _ h => h
end reads
end St

/-! ### types -/
class Sc (P : Program) (t : TypeId) : Prop where
  h : scB P t = true
class Ag (P : Program) (t : TypeId) (n : outParam Nat) : Prop where
  h : aggB P t n = true
class Et (P : Program) (t : TypeId) (e : outParam TypeId) (sz by_ : outParam Nat) : Prop where
  h : ET P t e sz by_
  pos : 0 < sz

section
variable {P : Program} {w0 w w' : World} {G : Grps}

/-! ### blocks -/
theorem St.run_loadB (h : St w0 w G) {k i : Nat} {b : Nat} {t : TypeId} {cs : List Value} (he : Has G k i (.cel b t cs)) {t' : TypeId} [Sc P t'] {p : Addr} {j : Nat} (hp : p = ⟨b, j, none⟩) {v : Value} (hv : nthO cs j = some v) :
    (Instr.loadAt t' (.pointer (some p))).run P w = .ok v w := by
  subst hp
  exact run_load Sc.h (by rw [(h.blk he).cell, ← nthO_get]; exact hv)
theorem St.loadB (h : St w0 w G) (k i : Nat) {b : Nat} {t : TypeId} {cs : List Value} (he : Has G k i (.cel b t cs)) {t' : TypeId} [Sc P t'] {p : Addr} {j : Nat} (hp : p = ⟨b, j, none⟩) {kd : Kd} {x : kd.T} (hv : nthO cs j = some (kd.val x)) {K : kd.T → World → Prop} (hk : K x w) :
    RunN P kd (V (Instr.loadAt t' (.pointer (some p)))) w K := RunN.of (h.run_loadB he hp hv) hk
theorem St.readB (h : St w0 w G) (k i : Nat) {b : Nat} {t : TypeId} {cs : List Value} (he : Has G k i (.cel b t cs)) {t' : TypeId} [Sc P t'] {p : Addr} {j : Nat} (hp : p = ⟨b, j, none⟩) {kd : Kd} {x : kd.T} (hv : nthO cs j = some (kd.val x)) {K : kd.T → Prop} (hk : K x) :
    ReadN P kd (V (Instr.loadAt t' (.pointer (some p)))) w K := ReadN.of (h.run_loadB he hp hv) hk
theorem St.stillB (h : St w0 w G) (k i : Nat) {b : Nat} {t : TypeId} {cs : List Value} (he : Has G k i (.cel b t cs)) {t' : TypeId} [Sc P t'] {p : Addr} {j : Nat} (hp : p = ⟨b, j, none⟩) {v : Value} (hv : nthO cs j = some v) :
    StillV P (V (Instr.loadAt t' (.pointer (some p)))) v w := StillV.of (h.run_loadB he hp hv)
/-- A part of a block as a struct. -/
theorem St.run_loadA (h : St w0 w G) {k i : Nat} {b : Nat} {t : TypeId} {cs : List Value} (he : Has G k i (.cel b t cs)) {t' : TypeId} {n : Nat} [Ag P t' n] {p : Addr} {j : Nat} (hp : p = ⟨b, j, none⟩) {vs : List Value} (hl : vs.length = n) (hv : (cs.drop j).take n = vs) :
    (Instr.loadAt t' (.pointer (some p))).run P w = .ok (.agg ⟨vs⟩) w := by
  subst hp
  refine run_loadAgg Ag.h hl fun m v hm => ?_
  rw [(h.blk he).cell]
  rw [← hv, List.getElem?_take] at hm
  split at hm
  · rwa [List.getElem?_drop] at hm
  · cases hm
theorem St.loadA (h : St w0 w G) (k i : Nat) {b : Nat} {t : TypeId} {cs : List Value} (he : Has G k i (.cel b t cs)) {t' : TypeId} {n : Nat} [Ag P t' n] {p : Addr} {j : Nat} (hp : p = ⟨b, j, none⟩) {kd : Kd} (x : kd.T) {vs : List Value} (hx : kd.val x = .agg ⟨vs⟩ := by rfl) (hl : vs.length = n := by rfl) (hv : (cs.drop j).take n = vs := by rfl) {K : kd.T → World → Prop} (hk : K x w) :
    RunN P kd (V (Instr.loadAt t' (.pointer (some p)))) w K := RunN.of (by rw [hx]; exact h.run_loadA he hp hl hv) hk
theorem St.readA (h : St w0 w G) (k i : Nat) {b : Nat} {t : TypeId} {cs : List Value} (he : Has G k i (.cel b t cs)) {t' : TypeId} {n : Nat} [Ag P t' n] {p : Addr} {j : Nat} (hp : p = ⟨b, j, none⟩) {kd : Kd} (x : kd.T) {vs : List Value} (hx : kd.val x = .agg ⟨vs⟩ := by rfl) (hl : vs.length = n := by rfl) (hv : (cs.drop j).take n = vs := by rfl) {K : kd.T → Prop} (hk : K x) :
    ReadN P kd (V (Instr.loadAt t' (.pointer (some p)))) w K := ReadN.of (by rw [hx]; exact h.run_loadA he hp hl hv) hk
theorem St.stillA (h : St w0 w G) (k i : Nat) {b : Nat} {t : TypeId} {cs : List Value} (he : Has G k i (.cel b t cs)) {t' : TypeId} {n : Nat} [Ag P t' n] {p : Addr} {j : Nat} (hp : p = ⟨b, j, none⟩) {vs : List Value} (hl : vs.length = n := by rfl) (hv : (cs.drop j).take n = vs := by rfl) :
    StillV P (V (Instr.loadAt t' (.pointer (some p)))) (.agg ⟨vs⟩) w := StillV.of (h.run_loadA he hp hl hv)
theorem St.storB (h : St w0 w G) (k i : Nat) {b : Nat} {t : TypeId} {cs : List Value} (he : Has G k i (.cel b t cs)) {t' : TypeId} [Sc P t'] {p : Addr} {j : Nat} (hp : p = ⟨b, j, none⟩) (hj : Nat.blt j cs.length = true) {v : Value} (hv : v.oneCell' = true) {K : World → Prop}
    (hk : ∀ w', St w0 w' (updG G k i [.cel b t (setO cs j v)]) → K w') : RunU P (U (Instr.storeAt t' (.pointer (some p)) v)) w K := by
  subst hp
  have hj' : j < cs.length := Nat.blt_eq ▸ hj
  refine RunU.storB Sc.h (h.blk he) hj' hv fun w' hb hu => hk w' (h.change1 he (hu.mono fun j _ hj => by subst hj; rfl) ⟨⟨(h.ent he).1.1, by rw [setO_set]; exact hb⟩, fun u hu => ?_⟩ fun j hj => .inl hj)
  simp only [Ent.vals, setO_set] at hu
  rcases List.mem_or_eq_of_mem_set hu with hu | rfl
  · exact h.one1 he u hu
  · exact hv
/-- A struct in the midst of a block. -/
theorem St.storA (h : St w0 w G) (k i : Nat) {b : Nat} {t : TypeId} {cs : List Value} (he : Has G k i (.cel b t cs)) {t' : TypeId} {n : Nat} [Ag P t' n] {p : Addr} {j : Nat} (hp : p = ⟨b, j, none⟩) {ds : List Value} (hl : ds.length = n := by rfl) (hj : Nat.ble (j + n) cs.length = true := by rfl) (h1 : ds.all Value.oneCell' = true := by rfl) {K : World → Prop}
    (hk : ∀ w', St w0 w' (updG G k i [.cel b t (cs.take j ++ ds ++ cs.drop (j + n))]) → K w') : RunU P (U (Instr.storeAt t' (.pointer (some p)) (.agg ⟨ds⟩))) w K := by
  subst hp
  have hj' : j + n ≤ cs.length := Nat.le_of_ble_eq_true hj
  have h1' : ∀ v ∈ ds, v.oneCell' = true := List.all_eq_true.1 h1
  have hst := Blk.store (P := P) (h.blk he) (o := j) (news := ds) (by omega) h1'
  refine RunU.of (run_storAgg Ag.h hl hst) (hk _ (h.change1 he (Upd.setRow _ _ _ rfl) ⟨⟨(h.ent he).1.1, by rw [← hl]; exact (h.blk he).row _⟩, fun u hu => ?_⟩ fun j hj => .inl hj))
  simp only [Ent.vals] at hu
  rcases List.mem_append.1 hu with hu | hu
  · rcases List.mem_append.1 hu with hu | hu
    · exact h.one1 he u (List.mem_of_mem_take hu)
    · exact h1' u hu
  · exact h.one1 he u (List.mem_of_mem_drop hu)
/-- A new variable. -/
theorem St.newB (h : St w0 w G) {s : Sem Value} {cs : List Value} {t : TypeId} (hr : s.run P w = .ok (.pointer (some ⟨w.heap.size, 0, none⟩)) (w.alloc (.cells ⟨cs⟩ t))) (h1 : cs.all Value.oneCell' = true) {K : Addr → World → Prop}
    (hk : ∀ b w', St w0 w' ([.cel b t cs] :: G) → K ⟨b, 0, none⟩ w') : RunN P .addr (V s) w K :=
  RunN.newB hr fun w' hb hu _ => hk _ w' (h.new hu ⟨⟨h.upd.size, hb⟩, List.all_eq_true.1 h1⟩ fun j hj => by simp [Ent.blk] at hj; omega)
theorem run_box {t : TypeId} {v : Value} {l : List Value} (hv : v.cells = ⟨l⟩) : (Instr.box t v).run P w = .ok (.pointer (some ⟨w.heap.size, 0, none⟩)) (w.alloc (.cells ⟨l⟩ t)) := by
  simp [Instr.box, newVar, hv]
  rfl
/-- A new row of literal values. -/
theorem St.newS (h : St w0 w G) {s : Sem Value} {cs : List Value} {t : TypeId} {n : Nat} (sz : Nat) (hr : s.run P w = .ok (.slice (some ⟨w.heap.size, 0, none⟩) n n) (w.alloc (.cells ⟨cs⟩ t))) (hn : Nat.ble n maxLen = true) (hl : cs.length = n * sz) (h1 : cs.all Value.oneCell' = true) {K : Sl → World → Prop}
    (hk : ∀ (s : Sl) w', s.len = n → s.cap = n → s.a ≠ none → St w0 w' ([.row t sz s cs] :: G) → K s w') : RunN P .sl (V s) w K :=
  RunN.newS hr h.upd.size (Nat.le_of_ble_eq_true hn) hl fun w' ho hu _ => hk _ w' rfl rfl (by simp) (h.new hu ⟨ho, List.all_eq_true.1 h1⟩ fun j hj => by simp [Ent.blk, Sl.blk] at hj; omega)

/-! ### rows -/
theorem Rd.addr {s : Sl} {sz : Nat} {vs : List Value} (h : Rd w s sz vs) (hs : 0 < sz) (hl : 0 < s.len) : ∃ b o, s.a = some ⟨b, o, none⟩ := by
  rcases h.2.1 with h0 | ⟨b, o, ha, _⟩
  · have := h.1; rw [h0] at this
    simp only [List.length_nil] at this
    have := Nat.mul_pos hl hs; omega
  · exact ⟨b, o, ha⟩
/-- The place of an element. -/
theorem Rd.run_idx {t e : TypeId} {sz by_ : Nat} [et : Et P t e sz by_] {s : Sl} {vs : List Value} (h : Rd w s sz vs) {kk : IntKind} {i : Int} {n : Nat} (hi : i = (n : Int)) (hn : n < s.len) :
    ∃ b o, s.a = some ⟨b, o, none⟩ ∧ (Instr.indexAt t (.slice s.a s.len s.cap) (.int kk i)).run P w = .ok (.pointer (some ⟨b, o + n * sz, none⟩)) w := by
  obtain ⟨b, o, ha⟩ := h.addr et.pos (by omega)
  have := Go.Fw.run_idx (P := P) (w := w) et.h ha (k := kk) (i := i) (by omega) (by omega)
  rw [hi, Int.toNat_natCast] at this
  rw [hi]; exact ⟨b, o, ha, this⟩
theorem Rd.idxK {t e : TypeId} {sz by_ : Nat} [et : Et P t e sz by_] {s : Sl} {vs : List Value} (h : Rd w s sz vs) {kk : IntKind} {i : Int} (n : Nat) (hi : i = (n : Int)) (hn : n < s.len) {K : Addr → World → Prop}
    (hk : ∀ b o, s.a = some ⟨b, o, none⟩ → K ⟨b, o + n * sz, none⟩ w) : RunN P .addr (V (Instr.indexAt t (.slice s.a s.len s.cap) (.int kk i))) w K := by
  obtain ⟨b, o, ha, hr⟩ := h.run_idx (P := P) (t := t) (kk := kk) hi hn
  exact RunN.of (kd := .addr) hr (hk b o ha)
theorem Rd.idxR {t e : TypeId} {sz by_ : Nat} [et : Et P t e sz by_] {s : Sl} {vs : List Value} (h : Rd w s sz vs) {kk : IntKind} {i : Int} (n : Nat) (hi : i = (n : Int)) (hn : n < s.len) {K : Addr → Prop}
    (hk : ∀ b o, s.a = some ⟨b, o, none⟩ → K ⟨b, o + n * sz, none⟩) : ReadN P .addr (V (Instr.indexAt t (.slice s.a s.len s.cap) (.int kk i))) w K := by
  obtain ⟨b, o, ha, hr⟩ := h.run_idx (P := P) (t := t) (kk := kk) hi hn
  exact ReadN.of (kd := .addr) hr (hk b o ha)
/-- A cell of a row. -/
theorem Rd.at {s : Sl} {sz : Nat} {vs : List Value} (h : Rd w s sz vs) {b o : Nat} (ha : s.a = some ⟨b, o, none⟩) {j : Nat} {v : Value} (hv : vs[j]? = some v) : w.cell? ⟨b, o + j, none⟩ = some v := by
  rcases h.2.1 with h0 | ⟨b', o', ha', hc⟩
  · subst h0; simp at hv
  · rw [ha] at ha'; cases ha'; exact hc j v hv
theorem Rd.run_el {t' : TypeId} [Sc P t'] {s : Sl} {sz : Nat} {vs : List Value} (h : Rd w s sz vs) {b o : Nat} (ha : s.a = some ⟨b, o, none⟩) {p : Addr} (j : Nat) (hp : p = ⟨b, o + j, none⟩) {v : Value} (hv : vs[j]? = some v) :
    (Instr.loadAt t' (.pointer (some p))).run P w = .ok v w := by
  subst hp; exact run_load Sc.h (h.at ha hv)
theorem Rd.el {t' : TypeId} [Sc P t'] {s : Sl} {sz : Nat} {vs : List Value} (h : Rd w s sz vs) {b o : Nat} (ha : s.a = some ⟨b, o, none⟩) {p : Addr} (j : Nat) (hp : p = ⟨b, o + j, none⟩) {kd : Kd} {x : kd.T} (hv : vs[j]? = some (kd.val x)) {K : kd.T → World → Prop} (hk : K x w) :
    RunN P kd (V (Instr.loadAt t' (.pointer (some p)))) w K := RunN.of (h.run_el ha j hp hv) hk
theorem Rd.elR {t' : TypeId} [Sc P t'] {s : Sl} {sz : Nat} {vs : List Value} (h : Rd w s sz vs) {b o : Nat} (ha : s.a = some ⟨b, o, none⟩) {p : Addr} (j : Nat) (hp : p = ⟨b, o + j, none⟩) {kd : Kd} {x : kd.T} (hv : vs[j]? = some (kd.val x)) {K : kd.T → Prop} (hk : K x) :
    ReadN P kd (V (Instr.loadAt t' (.pointer (some p)))) w K := ReadN.of (h.run_el ha j hp hv) hk
/-- A struct of a row. -/
theorem Rd.run_elA {t' : TypeId} {n : Nat} [Ag P t' n] {s : Sl} {sz : Nat} {vs : List Value} (h : Rd w s sz vs) {b o : Nat} (ha : s.a = some ⟨b, o, none⟩) {p : Addr} (j : Nat) (hp : p = ⟨b, o + j, none⟩) {ds : List Value} (hl : ds.length = n) (hv : (vs.drop j).take n = ds) :
    (Instr.loadAt t' (.pointer (some p))).run P w = .ok (.agg ⟨ds⟩) w := by
  subst hp
  refine run_loadAgg Ag.h hl fun m v hm => ?_
  rw [← hv, List.getElem?_take] at hm
  split at hm
  · rw [List.getElem?_drop] at hm
    rw [Nat.add_assoc]; exact h.at ha hm
  · cases hm
theorem Rd.elA {t' : TypeId} {n : Nat} [Ag P t' n] {s : Sl} {sz : Nat} {vs : List Value} (h : Rd w s sz vs) {b o : Nat} (ha : s.a = some ⟨b, o, none⟩) {p : Addr} (j : Nat) (hp : p = ⟨b, o + j, none⟩) {kd : Kd} (x : kd.T) {ds : List Value} (hv : (vs.drop j).take n = ds) {K : kd.T → World → Prop} (hk : K x w) (hx : kd.val x = .agg ⟨ds⟩ := by rfl) (hl : ds.length = n := by rfl) :
    RunN P kd (V (Instr.loadAt t' (.pointer (some p)))) w K := RunN.of (by rw [hx]; exact h.run_elA ha j hp hl hv) hk
theorem Rd.elAR {t' : TypeId} {n : Nat} [Ag P t' n] {s : Sl} {sz : Nat} {vs : List Value} (h : Rd w s sz vs) {b o : Nat} (ha : s.a = some ⟨b, o, none⟩) {p : Addr} (j : Nat) (hp : p = ⟨b, o + j, none⟩) {kd : Kd} (x : kd.T) {ds : List Value} (hv : (vs.drop j).take n = ds) {K : kd.T → Prop} (hk : K x) (hx : kd.val x = .agg ⟨ds⟩ := by rfl) (hl : ds.length = n := by rfl) :
    ReadN P kd (V (Instr.loadAt t' (.pointer (some p)))) w K := ReadN.of (by rw [hx]; exact h.run_elA ha j hp hl hv) hk
/-- A cell of an owned row is written. -/
theorem St.storR (h : St w0 w G) (k i : Nat) {E : TypeId} {sz : Nat} {s : Sl} {vs : List Value} (he : Has G k i (.row E sz s vs)) {b o : Nat} (ha : s.a = some ⟨b, o, none⟩) {t' : TypeId} [Sc P t'] {p : Addr} (j : Nat) (hp : p = ⟨b, o + j, none⟩) (hj : j < vs.length) {v : Value} (hv : v.oneCell' = true) {K : World → Prop}
    (hk : ∀ w', St w0 w' (updG G k i [.row E sz s (vs.set j v)]) → K w') : RunU P (U (Instr.storeAt t' (.pointer (some p)) v)) w K := by
  subst hp
  obtain ⟨g, o', ha', hb, hf, hc, hset⟩ := (h.ow he).place hj
  rw [ha] at ha'; cases ha'
  refine RunU.stor Sc.h hv hc hf (hk _ (h.change1 he (Upd.setCell _ _ _ hb) ⟨hset v, fun u hu => ?_⟩ fun j hj => .inl hj))
  rcases List.mem_or_eq_of_mem_set hu with hu | rfl
  · exact h.one1 he u hu
  · exact hv
/-- A struct of an owned row is written. -/
theorem St.storRA (h : St w0 w G) (k i : Nat) {E : TypeId} {sz : Nat} {s : Sl} {vs : List Value} (he : Has G k i (.row E sz s vs)) {b o : Nat} (ha : s.a = some ⟨b, o, none⟩) {t' : TypeId} {n : Nat} [Ag P t' n] {p : Addr} (j : Nat) (hp : p = ⟨b, o + j, none⟩) {ds : List Value} (hj : j + n ≤ vs.length) (hl : ds.length = n := by rfl) (hn : 0 < n := by decide) (h1 : ds.all Value.oneCell' = true := by rfl) {K : World → Prop}
    (hk : ∀ w', St w0 w' (updG G k i [.row E sz s (vs.take j ++ ds ++ vs.drop (j + n))]) → K w') : RunU P (U (Instr.storeAt t' (.pointer (some p)) (.agg ⟨ds⟩))) w K := by
  subst hp
  have h1' : ∀ v ∈ ds, v.oneCell' = true := List.all_eq_true.1 h1
  obtain ⟨g, o', ha', hb, w', hst, how, hup⟩ := (h.ow he).write (P := P) (i := j) (news := ds) (by omega) (by intro e; subst e; simp at hl; omega) h1'
  rw [ha] at ha'; cases ha'
  refine RunU.of (run_storAgg Ag.h hl hst) (hk _ (h.change1 he (hup.mono fun j _ hj => by subst hj; exact hb) ⟨by rw [← hl]; exact how, fun u hu => ?_⟩ fun j hj => .inl hj))
  simp only [Ent.vals] at hu
  rcases List.mem_append.1 hu with hu | hu
  · rcases List.mem_append.1 hu with hu | hu
    · exact h.one1 he u (List.mem_of_mem_take hu)
    · exact h1' u hu
  · exact h.one1 he u (List.mem_of_mem_drop hu)
/-- Append onto an owned row. -/
theorem St.app (h : St w0 w G) (k i : Nat) {e : TypeId} {sz by_ : Nat} {s : Sl} {xs : List Value} (he : Has G k i (.row e sz s xs)) {t tx ty : TypeId} [et : Et P t e sz by_] {ex : TypeId} [etx : Et P tx ex sz by_] {p : Sl} {news : List Value} (hr : Rd w p sz news) (h1 : ∀ v ∈ news, v.oneCell' = true)
    (h63 : s.len + p.len ≤ maxLen) (hfit : (s.len + p.len) * by_ ≤ 140737488355328) {K : Sl → World → Prop}
    (hk : ∀ (s' : Sl) w', s'.len = s.len + p.len → St w0 w' (updG G k i [.row e sz s' (xs ++ news)]) → K s' w') :
    RunN P .sl (V (Builtin.append_ #[t, tx] ty #[.slice s.a s.len s.cap, .slice p.a p.len p.cap])) w K := by
  refine RunN.appO et.h ⟨ex, etx.h⟩ et.pos (h.ow he) hr h1 h.upd.size h63 hfit fun s' w' hl ho hu hb => hk s' w' hl (h.change1 he hu ⟨ho, fun v hv => ?_⟩ fun j hj => ?_)
  · simp only [Ent.vals] at hv
    rcases List.mem_append.1 hv with hv | hv
    · exact h.one1 he v hv
    · exact h1 v hv
  · simp only [Ent.blk] at hj ⊢
    rcases hb with hb | ⟨g, hg, h2, h3⟩
    · rw [hb] at hj; exact .inl hj
    · rw [hg] at hj; cases hj; exact .inr h2
/-- A copy: append onto nil. -/
theorem St.appNil (h : St w0 w G) {e : TypeId} {sz by_ : Nat} {t tx ty : TypeId} [et : Et P t e sz by_] {ex : TypeId} [etx : Et P tx ex sz by_] {p : Sl} {news : List Value} (hr : Rd w p sz news) (h1 : ∀ v ∈ news, v.oneCell' = true)
    (h63 : p.len ≤ maxLen) (hfit : p.len * by_ ≤ 140737488355328) {K : Sl → World → Prop}
    (hk : ∀ (s' : Sl) w', s'.len = p.len → St w0 w' ([.row e sz s' news] :: G) → K s' w') :
    RunN P .sl (V (Builtin.append_ #[t, tx] ty #[.slice none 0 0, .slice p.a p.len p.cap])) w K :=
  (h.nilrow e sz).app 0 0 ⟨_, rfl, rfl⟩ hr h1 (by dsimp only; omega) (by dsimp only; rw [Nat.zero_add]; exact hfit) fun s' w' hl h => hk s' w' (by dsimp only at hl; omega) h
theorem St.make0 (h : St w0 w G) {t e : TypeId} {sz by_ : Nat} [et : Et P t e sz by_] {kc : IntKind} {c : Int} (h0 : 0 ≤ c) (hb : (by_ : Int) * c ≤ 281474976710656) (h63 : c ≤ 9223372036854775807) {K : Sl → World → Prop}
    (hk : ∀ (s' : Sl) w', s'.len = 0 → s'.cap = c.toNat → s'.a ≠ none → St w0 w' ([.row e sz s' []] :: G) → K s' w') :
    RunN P .sl (V (Instr.makeSlice t (.int .i64 0) (.int kc c))) w K :=
  RunN.make0 et.h h0 hb h63 h.upd.size fun s' w' hl hc ho hu hbk _ => hk s' w' hl hc (fun e => by simp [Sl.blk, e] at hbk) (h.new hu ⟨ho, fun v hv => by simp [Ent.vals] at hv⟩ fun j hj => by simp only [Ent.blk] at hj; rw [hbk] at hj; cases hj; exact Nat.le_refl _)
end
end Go.Fw
namespace Go.Fw
open Go Go.RowKit
class NewC (P : Program) (t : TypeId) (cs : outParam (List Value)) : Prop where
  run : ∀ w : World, (Instr.alloc t true (.tuple #[])).run P w = .ok (.pointer (some ⟨w.heap.size, 0, none⟩)) (w.alloc (.cells ⟨cs⟩ t))
theorem JoinX.mk {α : Type} {K : α → World → Prop} {F : (α → World → Prop) → Prop} (Q : α → World → Prop) (hK : ∀ x w, Q x w → K x w) (hF : ∀ k : α → World → Prop, (∀ x w, Q x w → k x w) → F k) : JoinX K F := hF K hK
theorem LoopX.mk {α : Type} {body : α → World → (α → World → Prop) → Prop} {s : α} {w : World} (I : α → World → Prop) (μ : α → Nat) (h0 : I s w) (h : ∀ s w, I s w → ∀ k : α → World → Prop, (∀ s' w', I s' w' → μ s' < μ s → k s' w') → body s w k) : LoopX body s w :=
  ⟨I, fun s _ => μ s, h0, fun s w hI => h s w hI _ fun s' w' h1 h2 => ⟨h1, h2⟩⟩
section
variable {P : Program} {w0 w w' : World} {G : Grps}
theorem St.ofOw {E : TypeId} {sz : Nat} {s : Sl} {vs : List Value} (hu : Upd w w' nobody) (ho : Ow w' w.heap.size E sz s vs) (h1 : ∀ v ∈ vs, v.oneCell' = true) : St w w' [[.row E sz s vs]] :=
  (St.init w).new hu ⟨ho, h1⟩ fun j hj => (ho.lt hj).1
/-- The first group becomes the end of the second. -/
theorem St.into {e : Ent} {g : List Ent} (h : St w0 w ([e] :: g :: G)) : St w0 w ((g ++ [e]) :: G) :=
  h.perm (by simp only [List.flatten_cons, List.append_assoc, List.cons_append, List.nil_append]; exact List.perm_middle.symm)
/-- One piece on its own. -/
theorem St.pull (h : St w0 w G) {k i : Nat} {e : Ent} (he : Has G k i e) : St w0 w ([e] :: updG G k i []) := by
  obtain ⟨A, h1, h2⟩ := updG_perm [] he
  refine h.perm (h1.trans ?_)
  rw [List.flatten_cons]
  exact (h2.symm.cons e)
theorem St.rest (h : St w0 w G) {k i : Nat} {e : Ent} (he : Has G k i e) : St w0 w (updG G k i []) := (h.pull he).drop 0
end
end Go.Fw

/- From a walk to a row: the arguments read behind a call that changed nothing as they read before it. -/
namespace Go.Fw
open Go.ChangeShapes Go.WideShapes Go.ChangeAt Go.RowKit Go

theorem trodAll_below {H : Type} {enc : TypeId × Value → H} {P : Program} {W W' : World} (hl : laidOutB P = true) (hb : Below W.heap.size W W') :
    ∀ {ts : List TypeId} {vs : List Value} {ds : List (DataW H)} {ps : List MemPlace}, (ts.all fun t => P.readableRec t && decide (t < P.types.size)) = true → DataW.TrodAll enc P W 0 (fun _ => true) true ts vs ds ps →
      (∀ x ∈ ps, x.block < W.heap.size) → DataW.TrodAll enc P W' 0 (fun b => decide (b < W.heap.size)) true ts vs ds ps
  | [], [], [], ps, _, h, _ => h
  | t :: ts, v :: vs, d :: ds, ps, ht, h, hlt => by
    obtain ⟨p, q, h1, h2, rfl⟩ := h
    simp only [List.all_cons, Bool.and_eq_true, decide_eq_true_eq] at ht
    exact ⟨p, q, Below.trod hl ht.1.1 ht.1.2 h1 hb (fun x hx => hlt x (List.mem_append_left _ hx)), trodAll_below hl hb (by simpa using ht.2) h2 (fun x hx => hlt x (List.mem_append_right _ hx)), rfl⟩
  | [], [], _ :: _, _, _, h, _ => h.elim
  | [], _ :: _, _, _, _, h, _ => h.elim
  | _ :: _, [], _, _, _, h, _ => h.elim
  | _ :: _, _ :: _, [], _, _, h, _ => h.elim

theorem byte_of {n : Int} (h : (Lit.int .u8 n).wf = true) : ∃ d : UInt8, n = (d.toNat : Int) := by
  have hmin : IntKind.u8.min = 0 := rfl
  have hmax : IntKind.u8.max = 255 := rfl
  simp [Lit.wf, hmin, hmax] at h
  refine ⟨UInt8.ofNat n.toNat, ?_⟩
  rw [UInt8.toNat_ofNat']; omega

/-! ### what was handed in, opened -/
def Wt {H : Type} (P : Program) (t : TypeId) (d : DataW H) : Prop := ∀ n ∈ d.weights P t, n ≤ reachBytes
theorem weightsAll_mem {H : Type} {P : Program} {e : TypeId} : ∀ {l : List (DataW H)} {d : DataW H}, d ∈ l → ∀ n ∈ d.weights P e, n ∈ DataW.weightsAll P e l
  | x :: r, d, hm, n, hn => by
    simp only [DataW.weightsAll, List.mem_append]
    rcases List.mem_cons.1 hm with rfl | hm
    · exact .inl hn
    · exact .inr (weightsAll_mem hm n hn)
theorem wt_of_all {H : Type} {P : Program} {ts : List TypeId} {ds : List (DataW H)} (h : (DataW.weightsEach P ts ds).all (· ≤ reachBytes) = true) {j : Nat} {t : TypeId} {d : DataW H} (ht : ts[j]? = some t) (hd : ds[j]? = some d) : Wt P t d := by
  intro n hn
  have := List.all_eq_true.1 h _ (DataW.weights_mem_each ht hd n hn)
  simpa using this
/-- A slice, its elements' cells, and how long it may be. -/
theorem open_rd {H : Type} {enc : TypeId × Value → H} {P : Program} {w : World} {base : Nat} {spare : Nat → Bool} {held : Bool} {fuel : Nat} {t e : TypeId} {sz : Nat} {cs : List Value} {x : DataW H × List MemPlace}
    (ht : P.underlying t = some (.slice e)) (hc : P.cellsOf e = sz) (hsz : 0 < sz) (h : DataW.trod enc P w base spare held fuel t cs = some x) (hw : Wt P t x.1) :
    ∃ (s : Sl) (els : List (List Value)), cs = [.slice s.a s.len s.cap] ∧ els.length = s.len ∧ Rd w s sz els.flatten ∧ s.len * P.bytesOf e ≤ reachBytes ∧ ∀ c ∈ els, c.length = sz ∧ ∃ (n : Nat) (y : DataW H × List MemPlace), DataW.trod enc P w base spare held n e c = some y ∧ Wt P e y.1 := by
  rcases DataW.trod_slice ht h with ⟨rfl, rfl⟩ | ⟨a, len, cap, elems, rest, n, _, rfl, rfl, hb, hl, hm, hlen, hel, _, _⟩
  · exact ⟨⟨none, 0, 0⟩, [], rfl, rfl, Rd.nil _ _, by simp, fun c hc => by cases hc⟩
  have hwl : (elems.length + rest.length) * P.bytesOf e ≤ reachBytes := by
    have := hw _ (by simp only [DataW.weights, ht, List.length_map]; exact List.mem_cons_self ..)
    exact this
  have each : ∀ i, i < len → ∃ c, w.cells? base (a.add (i * sz)) sz = some c ∧ ∃ y, DataW.trod enc P w base spare held n e c = some y ∧ Wt P e y.1 := by
    intro i hi
    have h1 := hel i hi
    obtain ⟨y, hy⟩ : ∃ y, elems[i]? = some y := ⟨elems[i]'(by omega), List.getElem?_eq_getElem (by omega)⟩
    rw [hy, hc, Option.bind_eq_some_iff] at h1
    obtain ⟨c, hc1, hc2⟩ := h1
    refine ⟨c, hc1, y, hc2, fun m hm => hw m ?_⟩
    simp only [DataW.weights, ht, List.mem_cons, List.mem_append]
    exact .inr (.inl (weightsAll_mem (List.mem_map.2 ⟨y, List.mem_of_getElem? hy, rfl⟩) m hm))
  refine ⟨⟨some a, len, cap⟩, (List.range len).map fun i => ((w.cells? base (a.add (i * sz)) sz).getD []), rfl, by simp, ?_, ?_, ?_⟩
  · have hrow : ∀ k, k ≤ len → ((List.range k).map fun i => ((w.cells? base (a.add (i * sz)) sz).getD [])).flatten.length = k * sz ∧
        ∀ j v, ((List.range k).map fun i => ((w.cells? base (a.add (i * sz)) sz).getD [])).flatten[j]? = some v → w.cell? (a.add j) = some v := by
      intro k
      induction k with
      | zero => intro _; exact ⟨by simp, fun j v h => by simp at h⟩
      | succ k ih =>
        intro hk
        obtain ⟨ih1, ih2⟩ := ih (by omega)
        obtain ⟨c, hc1, _⟩ := each k (by omega)
        obtain ⟨_, hcl, hcc⟩ := World.cells?_some hc1
        rw [List.range_succ, List.map_append, List.flatten_append]
        simp only [List.map_cons, List.map_nil, List.flatten_cons, List.flatten_nil, List.append_nil, hc1, Option.getD_some]
        refine ⟨by rw [List.length_append, ih1, hcl, Nat.add_mul, Nat.one_mul], fun j v hv => ?_⟩
        rcases Nat.lt_or_ge j (k * sz) with hj | hj
        · rw [List.getElem?_append_left (by omega)] at hv; exact ih2 j v hv
        · rw [List.getElem?_append_right (by omega), ih1] at hv
          have hjl := (List.getElem?_eq_some_iff.1 hv).1
          have := hcc (j - k * sz) (by omega)
          rw [hv] at this
          rw [← this]
          congr 1
          rcases a with ⟨b, o, sp⟩
          unfold Addr.add
          by_cases h1 : k * sz = 0
          · simp only [h1, if_true, Nat.sub_zero]
          · by_cases h2 : j - k * sz = 0
            · have : j = k * sz := by omega
              subst this
              simp [h1]
            · have : j ≠ 0 := by omega
              simp only [h1, h2, this, if_false, Addr.mk.injEq]
              exact ⟨trivial, by omega, trivial⟩
    obtain ⟨h1, h2⟩ := hrow len (Nat.le_refl _)
    refine ⟨h1, ?_, hl⟩
    by_cases h0 : len = 0
    · left; subst h0; rfl
    right
    have hsp : a.spot = none := by
      obtain ⟨c, hc1, _⟩ := each 0 (by omega)
      obtain ⟨_, hcl, hcc⟩ := World.cells?_some hc1
      have h3 := hcc 0 hsz
      have h4 : (a.add (0 * sz)).add 0 = a := by simp [Addr.add]
      rw [h4, List.getElem?_eq_getElem (by omega)] at h3
      unfold World.cell? at h3
      cases hs : a.spot with
      | none => rfl
      | some k =>
        simp only [hs, Option.isSome_some, if_true] at h3
        split at h3 <;> simp at h3
    obtain ⟨b, o, sp⟩ := a
    dsimp only at hsp
    subst hsp
    exact ⟨b, o, rfl, fun i v hv => by have := h2 i v hv; rwa [add_lit'] at this⟩
  · have : len * P.bytesOf e ≤ (elems.length + rest.length) * P.bytesOf e := Nat.mul_le_mul_right _ (by omega)
    dsimp only; omega
  · intro c hcm
    obtain ⟨i, hi, rfl⟩ := List.mem_map.1 hcm
    have hi := List.mem_range.1 hi
    obtain ⟨c, hc1, y, hy, hwy⟩ := each i hi
    obtain ⟨_, hcl, _⟩ := World.cells?_some hc1
    simp only [hc1, Option.getD_some]
    exact ⟨hcl, n, y, hy, hwy⟩
/-- A struct's fields. -/
theorem open_fields {H : Type} {enc : TypeId × Value → H} {P : Program} {w : World} {base : Nat} {spare : Nat → Bool} {held : Bool} {fuel : Nat} {t : TypeId} {fs : Array Field} {cs : List Value} {x : DataW H × List MemPlace}
    (ht : P.underlying t = some (.struct fs)) (h : DataW.trod enc P w base spare held fuel t cs = some x) (hw : Wt P t x.1) :
    ∀ (i : Nat) (f : Field), fs[i]? = some f → ∃ (n : Nat) (y : DataW H × List MemPlace), DataW.trod enc P w base spare held n f.type ((cs.drop f.offset).take (P.cellsOf f.type)) = some y ∧ Wt P f.type y.1 := by
  obtain ⟨xs, n, rfl, rfl, hcl, hxl, hel⟩ := DataW.trod_struct ht h
  intro i f hf
  have h1 := hel i f hf
  have hlt : i < xs.length := by rw [hxl]; exact (Array.getElem?_eq_some_iff.1 hf).1
  rw [List.getElem?_eq_getElem hlt] at h1
  refine ⟨n, xs[i], h1, fun m hm => hw m ?_⟩
  simp only [DataW.weights, ht]
  exact DataW.weights_mem_each (j := i) (t := f.type) (d := xs[i].1) (by simp [hf]) (by simp [hlt]) m hm
/-- Bytes. -/
theorem open_bys {H : Type} {enc : TypeId × Value → H} {P : Program} {w : World} {base : Nat} {spare : Nat → Bool} {held : Bool} {fuel : Nat} {t e : TypeId} {cs : List Value} {x : DataW H × List MemPlace}
    (ht : P.underlying t = some (.slice e)) (he : P.underlying e = some (.int .u8)) (hc : P.cellsOf e = 1) (hb : P.bytesOf e = 1) (h : DataW.trod enc P w base spare held fuel t cs = some x) (hw : Wt P t x.1) :
    ∃ (s : Sl) (l : List UInt8), cs = [.slice s.a s.len s.cap] ∧ Rd w s 1 (bys l) ∧ l.length ≤ reachBytes := by
  obtain ⟨s, els, rfl, hl, hr, hlen, hel⟩ := open_rd ht hc (by decide) h hw
  have : ∃ l : List UInt8, els.flatten = bys l := by
    clear hl hr hlen h hw
    induction els with
    | nil => exact ⟨[], rfl⟩
    | cons c r ih =>
      obtain ⟨l, hl⟩ := ih fun c hc => hel c (List.mem_cons_of_mem _ hc)
      obtain ⟨hc1, n, y, hy, _⟩ := hel c (List.mem_cons_self ..)
      obtain ⟨m, rfl, _, hwf⟩ := DataW.trod_int he hy
      obtain ⟨d, rfl⟩ := byte_of hwf
      exact ⟨d :: l, by rw [List.flatten_cons, hl]; rfl⟩
  obtain ⟨l, hbl⟩ := this
  rw [hbl] at hr
  refine ⟨s, l, rfl, hr, ?_⟩
  have := hr.bys_len
  rw [hb] at hlen; omega
end Go.Fw

/- Parts of slices, copies, what is made, what is compared: in the form of groups. -/
set_option linter.unusedVariables false
set_option linter.unusedSimpArgs false
namespace Go.Fw
open Go Go.RowKit

theorem wr {x : Int} (h : -9223372036854775808 ≤ x ∧ x ≤ 9223372036854775807) : IntKind.i64.wrap x = x := IntWalk.i64_in x h

/-- s[lo:hi] -/
def subS (s : Sl) (lo hi sz : Nat) : Sl := ⟨if s.cap = lo then s.a else s.a.map (·.add (lo * sz)), hi - lo, s.cap - lo⟩
theorem subS_addr {s : Sl} {lo hi sz b o : Nat} (ha : s.a = some ⟨b, o, none⟩) (h : lo < s.cap) : (subS s lo hi sz).a = some ⟨b, o + lo * sz, none⟩ := by
  simp only [subS, if_neg (show ¬ s.cap = lo by omega), ha, Option.map_some, add_lit']
theorem subS_zero (s : Sl) (hi sz : Nat) : subS s 0 hi sz = ⟨s.a, hi, s.cap⟩ := by
  simp only [subS, Nat.zero_mul, Nat.sub_zero]
  congr 1
  split
  · rfl
  · cases s.a <;> simp [Addr.add]
theorem subS_blk (s : Sl) (lo hi sz : Nat) : (subS s lo hi sz).blk = s.blk := by
  simp only [subS, Sl.blk]
  split
  · rfl
  · cases s.a with
    | none => rfl
    | some a => simp [Addr.add]; split <;> rfl
theorem Rd.subS {w : World} {s : Sl} {sz : Nat} {vs : List Value} (h : Rd w s sz vs) {lo hi : Nat} (h1 : lo ≤ hi) (h2 : hi ≤ s.len) : Rd w (subS s lo hi sz) sz ((vs.drop (lo * sz)).take ((hi - lo) * sz)) :=
  h.sub h1 h2 (Nat.le_trans h2 h.2.2)
theorem Rd.pre {w : World} {s : Sl} {sz : Nat} {vs : List Value} (h : Rd w s sz vs) {hi : Nat} (h2 : hi ≤ s.len) : Rd w (Go.Fw.subS s 0 hi sz) sz (vs.take (hi * sz)) := by
  have := h.subS (Nat.zero_le hi) h2; simpa using this
theorem Rd.suf {w : World} {s : Sl} {sz : Nat} {vs : List Value} (h : Rd w s sz vs) {lo : Nat} (h2 : lo ≤ s.len) : Rd w (Go.Fw.subS s lo s.len sz) sz (vs.drop (lo * sz)) := by
  have := h.subS h2 (Nat.le_refl _)
  rwa [List.take_of_length_le (by rw [List.length_drop, h.1, Nat.sub_mul]; omega)] at this
theorem Ow.suf {w : World} {base : Nat} {E : TypeId} {sz : Nat} {s : Sl} {vs : List Value} (h : Ow w base E sz s vs) {lo : Nat} (h2 : lo ≤ s.len) : Ow w base E sz (subS s lo s.len sz) (vs.drop (lo * sz)) := by
  have hl := h.1
  refine ⟨by simp only [subS, List.length_drop, hl, Nat.sub_mul], ?_⟩
  rcases h.2 with rfl | ⟨g, o, cs, ha, hb, hg, h3, h4, h5, h6⟩
  · left
    have : lo = 0 := by simpa using h2
    subst this; rfl
  · right
    have e1 : s.cap * sz = (s.cap - lo) * sz + lo * sz := by rw [← Nat.add_mul]; congr 1; omega
    have e2 : s.len * sz = (s.len - lo) * sz + lo * sz := by rw [← Nat.add_mul]; congr 1; omega
    by_cases hc : s.cap = lo
    · refine ⟨g, o, cs, by simp [subS, hc, ha], hb, hg, by simp only [subS]; omega, by simp only [subS]; omega, by simp only [subS]; rw [hc, Nat.sub_self, Nat.zero_mul]; omega, ?_⟩
      have : s.len - lo = 0 := by omega
      simp only [subS, this, Nat.zero_mul, List.take_zero]
      rw [List.drop_of_length_le]
      rw [hl]; exact Nat.mul_le_mul_right _ (by omega)
    · refine ⟨g, o + lo * sz, cs, subS_addr ha (by omega), hb, hg, by simp only [subS]; omega, by simp only [subS]; omega, by simp only [subS]; omega, ?_⟩
      simp only [subS]
      rw [← h6, List.drop_take, List.drop_drop]
      congr 1
      omega
theorem Ow.pre {w : World} {base : Nat} {E : TypeId} {sz : Nat} {s : Sl} {vs : List Value} (h : Ow w base E sz s vs) {hi : Nat} (h2 : hi ≤ s.len) : Ow w base E sz (subS s 0 hi sz) (vs.take (hi * sz)) := by
  rw [subS_zero]; exact h.shorter h2 rfl

section
variable {P : Program} {w0 w w' : World} {G : Grps}
theorem run_subL' {t e : TypeId} {sz by_ : Nat} [et : Et P t e sz by_] {s : Sl} {k : IntKind} {l : Int} {lo : Nat} (hl : l = (lo : Int)) (h2 : lo ≤ s.len) :
    (Instr.sliceAt t (.slice s.a s.len s.cap) (some (.int k l)) none none).run P w = .ok (.slice (subS s lo s.len sz).a (subS s lo s.len sz).len (subS s lo s.len sz).cap) w := by
  subst hl
  have := run_subL (P := P) (w := w) et.h (s := s) (k := k) (l := (lo : Int)) (by omega) (by omega)
  rw [Int.toNat_natCast] at this; exact this
theorem run_subH' {t e : TypeId} {sz by_ : Nat} [et : Et P t e sz by_] {s : Sl} {k : IntKind} {h : Int} {hi : Nat} (hl : h = (hi : Int)) (h2 : hi ≤ s.cap) :
    (Instr.sliceAt t (.slice s.a s.len s.cap) none (some (.int k h)) none).run P w = .ok (.slice (subS s 0 hi sz).a (subS s 0 hi sz).len (subS s 0 hi sz).cap) w := by
  subst hl
  have := run_subH (P := P) (w := w) et.h (s := s) (k := k) (h := (hi : Int)) (by omega) (by omega)
  rw [Int.toNat_natCast] at this; exact this
theorem run_subLH' {t e : TypeId} {sz by_ : Nat} [et : Et P t e sz by_] {s : Sl} {k kh : IntKind} {l h : Int} {lo hi : Nat} (hl : l = (lo : Int)) (hh : h = (hi : Int)) (h1 : lo ≤ hi) (h2 : hi ≤ s.cap) :
    (Instr.sliceAt t (.slice s.a s.len s.cap) (some (.int k l)) (some (.int kh h)) none).run P w = .ok (.slice (subS s lo hi sz).a (subS s lo hi sz).len (subS s lo hi sz).cap) w := by
  subst hl; subst hh
  have := run_subLH (P := P) (w := w) et.h (s := s) (kl := k) (kh := kh) (l := (lo : Int)) (h := (hi : Int)) (by omega) (by omega) (by omega)
  rw [Int.toNat_natCast, Int.toNat_natCast] at this; exact this
theorem RunN.sL {t e : TypeId} {sz by_ : Nat} [et : Et P t e sz by_] {s : Sl} {k : IntKind} {l : Int} (lo : Nat) (hl : l = (lo : Int)) (h2 : lo ≤ s.len) {K : Sl → World → Prop} (hk : K (subS s lo s.len sz) w) :
    RunN P .sl (V (Instr.sliceAt t (.slice s.a s.len s.cap) (some (.int k l)) none none)) w K := RunN.of (kd := .sl) (run_subL' hl h2) hk
theorem ReadN.sL {t e : TypeId} {sz by_ : Nat} [et : Et P t e sz by_] {s : Sl} {k : IntKind} {l : Int} (lo : Nat) (hl : l = (lo : Int)) (h2 : lo ≤ s.len) {K : Sl → Prop} (hk : K (subS s lo s.len sz)) :
    ReadN P .sl (V (Instr.sliceAt t (.slice s.a s.len s.cap) (some (.int k l)) none none)) w K := ReadN.of (kd := .sl) (run_subL' hl h2) hk
theorem RunN.sH {t e : TypeId} {sz by_ : Nat} [et : Et P t e sz by_] {s : Sl} {k : IntKind} {h : Int} (hi : Nat) (hl : h = (hi : Int)) (h2 : hi ≤ s.cap) {K : Sl → World → Prop} (hk : K (subS s 0 hi sz) w) :
    RunN P .sl (V (Instr.sliceAt t (.slice s.a s.len s.cap) none (some (.int k h)) none)) w K := RunN.of (kd := .sl) (run_subH' hl h2) hk
theorem ReadN.sH {t e : TypeId} {sz by_ : Nat} [et : Et P t e sz by_] {s : Sl} {k : IntKind} {h : Int} (hi : Nat) (hl : h = (hi : Int)) (h2 : hi ≤ s.cap) {K : Sl → Prop} (hk : K (subS s 0 hi sz)) :
    ReadN P .sl (V (Instr.sliceAt t (.slice s.a s.len s.cap) none (some (.int k h)) none)) w K := ReadN.of (kd := .sl) (run_subH' hl h2) hk
theorem StillV.sH {t e : TypeId} {sz by_ : Nat} [et : Et P t e sz by_] {s : Sl} {k : IntKind} {h : Int} (hi : Nat) (hl : h = (hi : Int)) (h2 : hi ≤ s.cap) :
    StillV P (V (Instr.sliceAt t (.slice s.a s.len s.cap) none (some (.int k h)) none)) (.slice (subS s 0 hi sz).a (subS s 0 hi sz).len (subS s 0 hi sz).cap) w := StillV.of (run_subH' hl h2)
theorem RunN.sLH {t e : TypeId} {sz by_ : Nat} [et : Et P t e sz by_] {s : Sl} {k kh : IntKind} {l h : Int} (lo hi : Nat) (hl : l = (lo : Int)) (hh : h = (hi : Int)) (h1 : lo ≤ hi) (h2 : hi ≤ s.cap) {K : Sl → World → Prop} (hk : K (subS s lo hi sz) w) :
    RunN P .sl (V (Instr.sliceAt t (.slice s.a s.len s.cap) (some (.int k l)) (some (.int kh h)) none)) w K := RunN.of (kd := .sl) (run_subLH' hl hh h1 h2) hk
theorem ReadN.sLH {t e : TypeId} {sz by_ : Nat} [et : Et P t e sz by_] {s : Sl} {k kh : IntKind} {l h : Int} (lo hi : Nat) (hl : l = (lo : Int)) (hh : h = (hi : Int)) (h1 : lo ≤ hi) (h2 : hi ≤ s.cap) {K : Sl → Prop} (hk : K (subS s lo hi sz)) :
    ReadN P .sl (V (Instr.sliceAt t (.slice s.a s.len s.cap) (some (.int k l)) (some (.int kh h)) none)) w K := ReadN.of (kd := .sl) (run_subLH' hl hh h1 h2) hk

/-- Copy into a part of an owned row. -/
theorem St.copy (h : St w0 w G) (k i : Nat) {e : TypeId} {sz by_ : Nat} {s : Sl} {vs : List Value} (he : Has G k i (.row e sz s vs)) {t ts ty : TypeId} [et : Et P t e sz by_] {e2 : TypeId} {sz2 b2 : Nat} [et2 : Et P ts e2 sz2 b2] {da : Option Addr} {dl dc : Nat} (lo : Nat)
    (hda : ∀ b o, s.a = some ⟨b, o, none⟩ → 0 < dl → da = some ⟨b, o + lo * sz, none⟩) (hdl : lo + dl ≤ s.len) {p : Sl} {ws : List Value} (hr : Rd w p sz ws) (h1 : ∀ v ∈ ws, v.oneCell' = true) {K : Int → World → Prop}
    (hk : ∀ w', St w0 w' (updG G k i [.row e sz s (vs.take (lo * sz) ++ ws.take (Nat.min p.len dl * sz) ++ vs.drop ((lo + Nat.min p.len dl) * sz))]) → K (Nat.min p.len dl : Nat) w') :
    RunN P (.int .i64) (V (Builtin.copy_ #[t, ts] ty #[.slice da dl dc, .slice p.a p.len p.cap])) w K := by
  obtain ⟨w', hr', ho, hu⟩ := run_copyOw (P := P) (ts := ts) (ty := ty) (da := da) (dc := dc) et.h (by simp [et2.h.ht]) et.pos (h.ow he) hda hdl hr h1
  refine RunN.of (kd := .int .i64) hr' (hk w' (h.change1 he hu ⟨ho, fun v hv => ?_⟩ fun j hj => .inl hj))
  simp only [Ent.vals] at hv
  rcases List.mem_append.1 hv with hv | hv
  · rcases List.mem_append.1 hv with hv | hv
    · exact h.one1 he v (List.mem_of_mem_take hv)
    · exact h1 v (List.mem_of_mem_take hv)
  · exact h.one1 he v (List.mem_of_mem_drop hv)
/-- Clear the end of an owned row. -/
theorem St.clear (h : St w0 w G) (k i : Nat) {e : TypeId} {sz by_ : Nat} {s : Sl} {vs : List Value} (he : Has G k i (.row e sz s vs)) {t ty : TypeId} [et : Et P t e sz by_] {a : Option Addr} {n c : Nat} (lo : Nat) {zs : List Value}
    (hz : (do pure (Builtin.zeroCells (← zeroValue e).cells n).toList : Sem (List Value)).run P w = .ok zs w) (hzl : zs.length = n * sz) (hz1 : zs.all Value.oneCell' = true) (hn : 0 < n) (ha : ∀ b o, s.a = some ⟨b, o, none⟩ → a = some ⟨b, o + lo * sz, none⟩) (hfit : lo + n ≤ s.len) {K : Unit → World → Prop}
    (hk : ∀ w', St w0 w' (updG G k i [.row e sz s (vs.take (lo * sz) ++ zs ++ vs.drop ((lo + n) * sz))]) → K () w') :
    RunN P (.tup .nilT) (V (Builtin.clear_ #[t] ty #[.slice a n c])) w K := by
  obtain ⟨w', hr', ho, hu⟩ := run_clearOw (P := P) (ty := ty) (c := c) et.h (h.ow he) hz hzl (List.all_eq_true.1 hz1) (Nat.mul_pos hn et.pos) ha hfit
  refine RunN.of (kd := .tup .nilT) (x := ()) hr' (hk w' (h.change1 he hu ⟨ho, fun v hv => ?_⟩ fun j hj => .inl hj))
  simp only [Ent.vals] at hv
  rcases List.mem_append.1 hv with hv | hv
  · rcases List.mem_append.1 hv with hv | hv
    · exact h.one1 he v (List.mem_of_mem_take hv)
    · exact List.all_eq_true.1 hz1 v hv
  · exact h.one1 he v (List.mem_of_mem_drop hv)
/-- A row seen shorter: its beginning, its end. -/
theorem St.preR (h : St w0 w G) {k i : Nat} {e : TypeId} {sz : Nat} {s : Sl} {vs : List Value} (he : Has G k i (.row e sz s vs)) {hi : Nat} (h2 : hi ≤ s.len) : St w0 w (updG G k i [.row e sz (subS s 0 hi sz) (vs.take (hi * sz))]) :=
  h.change1 he (Upd.refl _ _) ⟨(h.ow he).pre h2, fun v hv => h.one1 he v (List.mem_of_mem_take hv)⟩ fun j hj => .inl (by simpa [Ent.blk, subS_blk] using hj)
theorem St.sufR (h : St w0 w G) {k i : Nat} {e : TypeId} {sz : Nat} {s : Sl} {vs : List Value} (he : Has G k i (.row e sz s vs)) {lo : Nat} (h2 : lo ≤ s.len) : St w0 w (updG G k i [.row e sz (subS s lo s.len sz) (vs.drop (lo * sz))]) :=
  h.change1 he (Upd.refl _ _) ⟨(h.ow he).suf h2, fun v hv => h.one1 he v (List.mem_of_mem_drop hv)⟩ fun j hj => .inl (by simpa [Ent.blk, subS_blk] using hj)

/-- Append, and what becomes of the old one: it is the beginning of the new one, or it is left where it is. -/
theorem St.appKeep (h : St w0 w G) (k i : Nat) {e : TypeId} {sz by_ : Nat} {s : Sl} {xs : List Value} (he : Has G k i (.row e sz s xs)) {t tx ty : TypeId} [et : Et P t e sz by_] {ex : TypeId} [etx : Et P tx ex sz by_] {p : Sl} {news : List Value} (hr : Rd w p sz news) (h1 : ∀ v ∈ news, v.oneCell' = true)
    (h63 : s.len + p.len ≤ maxLen) (hfit : (s.len + p.len) * by_ ≤ 140737488355328) {K : Sl → World → Prop}
    (hk : ∀ (s' : Sl) w', s'.len = s.len + p.len → (s'.a = s.a ∧ s'.cap = s.cap ∧ St w0 w' (updG G k i [.row e sz s' (xs ++ news)]) ∨ St w0 w' (updG G k i [.row e sz s' (xs ++ news), .row e sz s xs])) → K s' w') :
    RunN P .sl (V (Builtin.append_ #[t, tx] ty #[.slice s.a s.len s.cap, .slice p.a p.len p.cap])) w K := by
  obtain ⟨s', w', hr', hl, ho, hu, hb⟩ := run_app (P := P) (ty := ty) et.h et.pos (h.ow he) (Src.ofRd etx.h et.pos hr h1) h.upd.size h63 hfit
  have hone : ∀ v ∈ xs ++ news, v.oneCell' = true := fun v hv => by
    rcases List.mem_append.1 hv with hv | hv
    · exact h.one1 he v hv
    · exact h1 v hv
  refine RunN.of (kd := .sl) (x := s') hr' (hk s' w' hl ?_)
  rcases hb with ⟨ha, hc⟩ | ⟨hu0, g, hg, hg1, hg2⟩
  · exact .inl ⟨ha, hc, h.change1 he hu ⟨ho, hone⟩ fun j hj => .inl (by simpa [Ent.blk, Sl.blk, ha] using hj)⟩
  · refine .inr (h.change he (hu0.none _) (fun e' he' => ?_) ?_ (fun e' he' j hj => ?_))
    · simp at he'
      rcases he' with rfl | rfl
      · exact ⟨ho, hone⟩
      · exact (h.ent he).upd hu0 fun _ _ h => h
    · refine List.pairwise_cons.2 ⟨fun x hx k hk hxk => ?_, by simp⟩
      simp at hx; subst hx
      simp only [Ent.blk] at hk hxk
      rw [hg] at hk; cases hk
      have := ((h.ent he).lt (k := g) hxk).2
      omega
    · simp at he'
      rcases he' with rfl | rfl
      · simp only [Ent.blk] at hj; rw [hg] at hj; cases hj; exact .inr hg1
      · exact .inl hj
end
end Go.Fw
namespace Go.Fw
open Go
section
variable {P : Program} {w : World}
theorem NilP.mk {a : Addr} {F : Addr → Prop} (h : F a) : NilP (some a) F := h
theorem RunN.isLoad {kd : Kd} {t : TypeId} {v : Value} {K : kd.T → World → Prop} (h : RunN P kd (V (Instr.loadAt t v)) w K) : RunN P kd (V (Instr.loadAt t v)) w K := h
theorem ReadN.isLoad {kd : Kd} {t : TypeId} {v : Value} {K : kd.T → Prop} (h : ReadN P kd (V (Instr.loadAt t v)) w K) : ReadN P kd (V (Instr.loadAt t v)) w K := h
theorem StillV.isLoad {t : TypeId} {v u : Value} {A : Prop} (h : StillV P (V (Instr.loadAt t v)) u w ∧ A) : StillV P (V (Instr.loadAt t v)) u w ∧ A := h
theorem RunU.isStor {t : TypeId} {v u : Value} {K : World → Prop} (h : RunU P (U (Instr.storeAt t v u)) w K) : RunU P (U (Instr.storeAt t v u)) w K := h
theorem RunN.isBox {t : TypeId} {v : Value} {K : Addr → World → Prop} (h : RunN P .addr (V (Instr.box t v)) w K) : RunN P .addr (V (Instr.box t v)) w K := h
theorem RunN.isNew {t : TypeId} {b : Bool} {v : Value} {K : Addr → World → Prop} (h : RunN P .addr (V (Instr.alloc t b v)) w K) : RunN P .addr (V (Instr.alloc t b v)) w K := h
end
end Go.Fw
namespace Go.Fw
open Go
theorem run_boxA {P : Program} {w : World} {t : TypeId} {l : List Value} : (Instr.box t (.agg ⟨l⟩)).run P w = .ok (.pointer (some ⟨w.heap.size, 0, none⟩)) (w.alloc (.cells ⟨l⟩ t)) := run_box rfl
end Go.Fw
namespace Go.Fw
open Go
variable {w0 w : World} {F : Grps}
/-- The list's row is another one. -/
theorem St.swapRow {e' c e : Ent} {ms : List Ent} (h : St w0 w ([e'] :: (c :: e :: ms) :: F)) : St w0 w ((c :: e' :: ms) :: F) := by
  have h : St w0 w ([e] :: (c :: e' :: ms) :: F) := h.perm (by
    simp only [List.flatten_cons, List.cons_append, List.nil_append]
    exact (List.Perm.cons e' (.swap _ _ _)).trans ((List.Perm.swap _ _ _).trans (.cons e (.swap _ _ _))))
  exact h.drop 0

end Go.Fw
namespace Go.Fw
open Go
/-- A pointer against nil. -/
class PtE (P : Program) (t : TypeId) : Prop where
  eqS : ∀ (w : World) (x y : Operand) (a : Addr), (do eqGuard .eql t x y (.pointer (some a)) (.pointer none); binOp .eql t (.pointer (some a)) (.pointer none) : Sem Value).run P w = .ok (.bool false) w
  eqN : ∀ (w : World) (x y : Operand), (do eqGuard .eql t x y (.pointer none) (.pointer none); binOp .eql t (.pointer none) (.pointer none) : Sem Value).run P w = .ok (.bool true) w
  neS : ∀ (w : World) (x y : Operand) (a : Addr), (do eqGuard .neq t x y (.pointer (some a)) (.pointer none); binOp .neq t (.pointer (some a)) (.pointer none) : Sem Value).run P w = .ok (.bool true) w
  neN : ∀ (w : World) (x y : Operand), (do eqGuard .neq t x y (.pointer none) (.pointer none); binOp .neq t (.pointer none) (.pointer none) : Sem Value).run P w = .ok (.bool false) w
section
variable {P : Program} {w : World} {t : TypeId} [PtE P t] {x y : Operand} {K : Bool → World → Prop}
theorem RunN.pEqS {a : Addr} (h : K false w) : RunN P .bool (V (do eqGuard .eql t x y (.pointer (some a)) (.pointer none); binOp .eql t (.pointer (some a)) (.pointer none))) w K := RunN.of (kd := .bool) (PtE.eqS w x y a) h
theorem RunN.pEqN (h : K true w) : RunN P .bool (V (do eqGuard .eql t x y (.pointer none) (.pointer none); binOp .eql t (.pointer none) (.pointer none))) w K := RunN.of (kd := .bool) (PtE.eqN w x y) h
theorem RunN.pNeS {a : Addr} (h : K true w) : RunN P .bool (V (do eqGuard .neq t x y (.pointer (some a)) (.pointer none); binOp .neq t (.pointer (some a)) (.pointer none))) w K := RunN.of (kd := .bool) (PtE.neS w x y a) h
theorem RunN.pNeN (h : K false w) : RunN P .bool (V (do eqGuard .neq t x y (.pointer none) (.pointer none); binOp .neq t (.pointer none) (.pointer none))) w K := RunN.of (kd := .bool) (PtE.neN w x y) h
end
end Go.Fw
namespace Go.Fw
open Go
variable {w0 w : World}
theorem u8w (x : Int) : ∃ b : UInt8, Value.int .u8 (IntKind.u8.wrap x) = u8v b ∧ (b.toNat : Int) = IntKind.u8.wrap x := by
  have h : 0 ≤ IntKind.u8.wrap x ∧ IntKind.u8.wrap x ≤ 255 := by rw [IntKind.wrap_u8]; omega
  refine ⟨UInt8.ofNat (IntKind.u8.wrap x).toNat, ?_, ?_⟩
  · simp only [u8v, UInt8.toNat_ofNat']; congr 1; omega
  · rw [UInt8.toNat_ofNat']; omega
theorem bys_set (l : List UInt8) (i : Nat) (b : UInt8) : (bys l).set i (u8v b) = bys (l.set i b) := by
  simp [bys, List.map_set]
theorem one_slice {s : Sl} : ∀ v ∈ [Value.slice s.a s.len s.cap], v.oneCell' = true := by intro v hv; simp at hv; subst hv; rfl
theorem one_int {k : IntKind} {x : Int} : ∀ v ∈ [Value.int k x], v.oneCell' = true := by intro v hv; simp at hv; subst hv; rfl
theorem one_str {x : ByteArray} : ∀ v ∈ [Value.string x], v.oneCell' = true := by intro v hv; simp at hv; subst hv; rfl

/-- A row of bytes that grows from its old one: it holds it as its beginning, or the old one is left. -/
def Grow (E : TypeId) (w0 w : World) (q : Sl) (v : List UInt8) (d : Sl) (e : List UInt8) (G : Grps) : Prop :=
  q.len = v.length ∧ d.len = v.length + e.length ∧ (d.a = q.a ∧ d.cap = q.cap ∧ St w0 w ([.row E 1 d (bys (v ++ e))] :: G) ∨ St w0 w ([.row E 1 d (bys (v ++ e)), .row E 1 q (bys v)] :: G))
theorem Grow.start {E : TypeId} {q : Sl} {v : List UInt8} {G : Grps} (h : St w0 w ([.row E 1 q (bys v)] :: G)) : Grow E w0 w q v q [] G := by
  have hl := (h.rd (k := 0) (i := 0) ⟨_, rfl, rfl⟩).bys_len
  exact ⟨hl, by simpa using hl, .inl ⟨rfl, rfl, by simpa using h⟩⟩
theorem Grow.app {P : Program} {t E : TypeId} [et : Et P t E 1 1] (hbs : ∀ (w : World) (x : Int), (Instr.buildSlice t 1 #[(0, .int .u8 x)]).run P w = .ok (.slice (some ⟨w.heap.size, 0, none⟩) 1 1) (w.alloc (.cells ⟨[.int .u8 x]⟩ E)))
    {q : Sl} {v : List UInt8} {d : Sl} {e : List UInt8} {G : Grps} (hg : Grow E w0 w q v d e G) (x : Int) (b : UInt8) (hb : Value.int .u8 x = u8v b) (hl : v.length + e.length ≤ 1048576000) {ty : TypeId} {K : Sl → World → Prop}
    (hk : ∀ d' w', Grow E w0 w' q v d' (e ++ [b]) G → K d' w') :
    RunN P .sl (V (Instr.buildSlice t 1 #[(0, .int .u8 x)])) w fun u w =>
      RunN P .sl (V (Builtin.append_ #[t, t] ty #[.slice d.a d.len d.cap, .slice u.a u.len u.cap])) w fun u' w => K u' w := by
  obtain ⟨hql, hdl, hc⟩ := hg
  have ebb : bys (v ++ e) ++ [Value.int .u8 x] = bys (v ++ (e ++ [b])) := by
    rw [hb, ← List.append_assoc, bys_append (v ++ e)]; rfl
  rcases hc with ⟨ha, hcap, h⟩ | h
  · refine h.newS 1 (hbs _ _) rfl rfl rfl ?_
    intro u w hl1 hc1 _ h
    refine h.appKeep 1 0 ⟨_, rfl, rfl⟩ (h.rd (k := 0) (i := 0) ⟨_, rfl, rfl⟩) one_int (by simp only [maxLen]; omega) (by omega) ?_
    intro d' w hl' hd
    rw [ebb] at hd
    refine hk d' w ⟨hql, by simp; omega, ?_⟩
    rcases hd with ⟨ha', hc', h⟩ | h
    · dsimp only [updG, setO] at h
      exact .inl ⟨ha'.trans ha, hc'.trans hcap, h.drop 0⟩
    · dsimp only [updG, delO, List.append_nil] at h
      have h := h.drop 0
      dsimp only [delO] at h
      have hrd := h.preR (k := 0) (i := 1) ⟨_, rfl, rfl⟩ (hi := v.length) (by omega)
      dsimp only [updG, setO] at hrd
      right
      have e1 : (bys (v ++ e)).take (v.length * 1) = bys v := by rw [Nat.mul_one, bys_append, List.take_append_of_le_length (by simp), List.take_of_length_le (by simp)]
      have e2 : subS d 0 v.length 1 = q := by
        rw [subS_zero, ha, hcap, ← hql]
      rw [e1, e2] at hrd
      exact hrd
  · refine h.newS 1 (hbs _ _) rfl rfl rfl ?_
    intro u w hl1 hc1 _ h
    refine h.app 1 0 ⟨_, rfl, rfl⟩ (h.rd (k := 0) (i := 0) ⟨_, rfl, rfl⟩) one_int (by simp only [maxLen]; omega) (by omega) ?_
    intro d' w hl' h
    dsimp only [updG, setO] at h
    rw [ebb] at h
    exact hk d' w ⟨hql, by simp; omega, .inr (h.drop 0)⟩
/-- At the end the old one is there, whatever became of it. -/
theorem Grow.old {E : TypeId} {q : Sl} {v : List UInt8} {d : Sl} {e : List UInt8} {G : Grps} (hg : Grow E w0 w q v d e G) : St w0 w ([.row E 1 q (bys v)] :: G) := by
  obtain ⟨hql, hdl, hc⟩ := hg
  rcases hc with ⟨ha, hcap, h⟩ | h
  · have hrd := h.preR (k := 0) (i := 0) ⟨_, rfl, rfl⟩ (hi := v.length) (by omega)
    dsimp only [updG, setO] at hrd
    have e1 : (bys (v ++ e)).take (v.length * 1) = bys v := by rw [Nat.mul_one, bys_append, List.take_append_of_le_length (by simp), List.take_of_length_le (by simp)]
    have e2 : subS d 0 v.length 1 = q := by
      rw [subS_zero, ha, hcap, ← hql]
    rw [e1, e2] at hrd
    exact hrd
  · exact h.rest (k := 0) (i := 0) ⟨_, rfl, rfl⟩
end Go.Fw
namespace Go.Fw
open Go
section
variable {P : Program} {w0 w : World} {G : Grps}
theorem nthO_mem {α : Type} : ∀ {l : List α} {n : Nat} {x : α}, nthO l n = some x → x ∈ l
  | [], _, _, h => by cases h
  | y :: r, 0, x, h => by simp [nthO] at h; subst h; exact List.mem_cons_self ..
  | y :: r, n + 1, x, h => List.mem_cons_of_mem _ (nthO_mem (l := r) h)
theorem St.memG (h : St w0 w G) (k : Nat) {g : List Ent} {e : Ent} (hk : nthO G k = some g) (he : e ∈ g) : e.ok w w0.heap.size := h.fl.ok e (List.mem_flatten.2 ⟨g, nthO_mem hk, he⟩)
theorem StillV.el {t' : TypeId} [Sc P t'] {s : Sl} {sz : Nat} {vs : List Value} (h : Rd w s sz vs) {b o : Nat} (ha : s.a = some ⟨b, o, none⟩) {p : Addr} (j : Nat) (hp : p = ⟨b, o + j, none⟩) {v : Value} (hv : vs[j]? = some v) :
    StillV P (V (Instr.loadAt t' (.pointer (some p)))) v w := StillV.of (h.run_el ha j hp hv)
theorem StillV.idx {t e : TypeId} {sz by_ : Nat} [et : Et P t e sz by_] {s : Sl} {vs : List Value} (h : Rd w s sz vs) {b o : Nat} (ha : s.a = some ⟨b, o, none⟩) {kk : IntKind} {i : Int} (n : Nat) (hi : i = (n : Int)) (hn : n < s.len) :
    StillV P (V (Instr.indexAt t (.slice s.a s.len s.cap) (.int kk i))) (.pointer (some ⟨b, o + n * sz, none⟩)) w := by
  obtain ⟨b', o', ha', hr⟩ := h.run_idx (P := P) (t := t) (kk := kk) hi hn
  rw [ha] at ha'; cases ha'
  exact StillV.of hr
end
end Go.Fw
namespace Go.Fw
open Go
section
variable {P : Program} {w0 w : World} {G : Grps}
/-- The bytes of a constant text: they may be read. -/
theorem St.litC (h : St w0 w G) {t e n : Nat} {parts : Array (Nat × Value)} (l : List UInt8) (ht : P.underlying t = some (.slice e)) (he : P.underlying e = some (.int .u8)) (hn : n = l.length)
    (hr : (Instr.buildSlice t n parts).run P w = .ok (.slice (some ⟨w.heap.size, 0, none⟩) n n) (w.alloc (.cells ⟨bys l⟩ e))) {K : Sl → World → Prop}
    (hk : ∀ (s : Sl) w', s.len = l.length → St w0 w' ([.ro s 1 (bys l)] :: G) → K s w') :
    RunN P .sl (V (Instr.buildSlice t n parts)) w fun u w => RunN P .sl (V (convert t t (.slice u.a u.len u.cap))) w K := by
  refine RunN.of (kd := .sl) (x := ⟨some ⟨w.heap.size, 0, none⟩, n, n⟩) hr ?_
  refine RunN.of (kd := .sl) (x := ⟨some ⟨w.heap.size, 0, none⟩, n, n⟩) (Lib.run_convert_bytes_const w t e ⟨bys l⟩ n n ht he) (hk _ _ hn ?_)
  have hu : Upd w (w.alloc (.cells ⟨bys l⟩ e ((⟨bys l⟩ : Array Value).size, (⟨bys l⟩ : Array Value).size + 1))) nobody := Upd.alloc _ _ _
  refine h.new hu ⟨⟨fun b hb => ?_, ?_⟩, bys_one l⟩ fun j hj => ?_
  · simp [Sl.blk] at hb; subst hb; exact ⟨h.upd.size, by simp⟩
  · refine ⟨by simp [hn], .inr ⟨w.heap.size, 0, rfl, fun i v hv => ?_⟩, Nat.le_refl _⟩
    rw [cell_of_row _ _ _ ⟨bys l⟩ e _ (heap_alloc_new w _)]
    simpa using hv
  · simp [Ent.blk, Sl.blk] at hj; omega
end
end Go.Fw

/- What shelves of answers are made of: lists of slices, lists of texts, one that has grown from another; a row made of zeros. -/
set_option linter.unusedVariables false
set_option linter.unusedSimpArgs false
namespace Go.Fw
open Go Go.RowKit

@[reducible] def slv (s : Sl) : Value := .slice s.a s.len s.cap
abbrev Bs := Sl × List UInt8
/-- The row of one list of bytes. -/
def brw (E : TypeId) (x : Bs) : Ent := .row E 1 x.1 (bys x.2)
def lsl (l : List Bs) : List Value := l.map fun x => slv x.1
def lst (l : List Bs) : List Value := l.map fun x => .string ⟨x.2.toArray⟩
def lin (l : List Int) : List Value := l.map fun x => .int .i64 x
theorem lsl_len (l : List Bs) : (lsl l).length = l.length := by simp [lsl]
theorem lst_len (l : List Bs) : (lst l).length = l.length := by simp [lst]
theorem lin_len (l : List Int) : (lin l).length = l.length := by simp [lin]
theorem lsl_at {l : List Bs} {i : Nat} (h : i < l.length) : (lsl l)[i]? = some (Value.slice l[i].1.a l[i].1.len l[i].1.cap) := by simp [lsl, h]
theorem lst_at {l : List Bs} {i : Nat} (h : i < l.length) : (lst l)[i]? = some (Value.string ⟨l[i].2.toArray⟩) := by simp [lst, h]
theorem lin_at {l : List Int} {i : Nat} (h : i < l.length) : (lin l)[i]? = some (Value.int .i64 l[i]) := by simp [lin, h]
theorem lsl_snoc (l : List Bs) (x : Bs) : lsl (l ++ [x]) = lsl l ++ [.slice x.1.a x.1.len x.1.cap] := by simp [lsl]
theorem lst_snoc (l : List Bs) (x : Bs) : lst (l ++ [x]) = lst l ++ [.string ⟨x.2.toArray⟩] := by simp [lst]
theorem lin_snoc (l : List Int) (x : Int) : lin (l ++ [x]) = lin l ++ [.int .i64 x] := by simp [lin]
theorem lsl_app (a b : List Bs) : lsl (a ++ b) = lsl a ++ lsl b := by simp [lsl]
theorem lst_app (a b : List Bs) : lst (a ++ b) = lst a ++ lst b := by simp [lst]
theorem lsl_drop (l : List Bs) (n : Nat) : (lsl l).drop n = lsl (l.drop n) := by simp [lsl, List.map_drop]
theorem lst_drop (l : List Bs) (n : Nat) : (lst l).drop n = lst (l.drop n) := by simp [lst, List.map_drop]
theorem nthO_map {α β : Type} (f : α → β) (l : List α) {i : Nat} (hi : i < l.length) : nthO (l.map f) i = some (f l[i]) := by
  rw [nthO_get]; simp [hi]
theorem delO_map {α β : Type} (f : α → β) (l : List α) (i : Nat) : delO (l.map f) i = (l.eraseIdx i).map f := by
  induction l generalizing i with
  | nil => rfl
  | cons x r ih => cases i with
    | zero => rfl
    | succ i => simp [delO, ih]
theorem brw_at {E : TypeId} {l : List Bs} {i : Nat} (h : i < l.length) : nthO (l.map (brw E)) i = some (.row E 1 l[i].1 (bys l[i].2)) := nthO_map (brw E) l h
theorem setO_brw (E : TypeId) (l : List Bs) (i : Nat) (x : Bs) : setO (l.map (brw E)) i (brw E x) = (l.set i x).map (brw E) := by rw [setO_set, List.map_set]
theorem lsl_map (d : List Bs) : lsl d = (d.map (·.1)).map slv := by simp [lsl]

variable {w0 w : World} {G : Grps}
/-- What may be read as long as the rest stands. -/
def SeesG (w0 : World) (F : Grps) (p : Sl) (sz : Nat) (vs : List Value) : Prop := ∀ w, St w0 w F → Rd w p sz vs

/-- One that has grown: what it was is its beginning, or is left where it is. -/
def Far (E : TypeId) (x y : Bs) (g : List Ent) : Prop :=
  (∃ e, y.2 = x.2 ++ e) ∧ x.1.len = x.2.length ∧ y.1.len = y.2.length ∧ x.1.len ≤ x.1.cap ∧ (g = [brw E y] ∧ y.1.a = x.1.a ∨ g = [brw E y, brw E x])
theorem Far.reads {E : TypeId} {x y : Bs} {g : List Ent} (hf : Far E x y g) (h : St w0 w G) {k : Nat} {gs : List Ent} (hk : nthO G k = some gs) (hg : ∀ e ∈ g, e ∈ gs) : Rd w y.1 1 (bys y.2) ∧ Rd w x.1 1 (bys x.2) := by
  obtain ⟨⟨e, h1⟩, h2, h3, h4, h5⟩ := hf
  have hy : Rd w y.1 1 (bys y.2) := by
    have : brw E y ∈ gs := hg _ (by rcases h5 with ⟨h5, _⟩ | h5 <;> rw [h5] <;> simp)
    exact (h.memG k hk this).1.rd
  refine ⟨hy, ?_⟩
  rcases h5 with ⟨h5, ha⟩ | h5
  · have hp := hy.pre (hi := x.1.len) (by rw [h3, h1, List.length_append]; omega)
    rw [subS_zero] at hp
    refine ⟨by rw [bys_length, h2]; simp, ?_, h4⟩
    have e : (bys y.2).take (x.1.len * 1) = bys x.2 := by rw [h1, h2, Nat.mul_one, bys_append, List.take_append_of_le_length (by simp), List.take_of_length_le (by simp)]
    rw [e] at hp
    rcases hp.2.1 with h0 | ⟨b, o, hb, hc⟩
    · exact .inl h0
    · exact .inr ⟨b, o, by rw [← ha]; exact hb, hc⟩
  · have : brw E x ∈ gs := hg _ (by rw [h5]; simp)
    exact (h.memG k hk this).1.rd
theorem Grow.far {E : TypeId} {q : Sl} {v : List UInt8} {d : Sl} {e : List UInt8} (hg : Grow E w0 w q v d e G) (hc : q.len ≤ q.cap) : ∃ g, Far E (q, v) (d, v ++ e) g ∧ St w0 w (g :: G) := by
  obtain ⟨h1, h2, h3⟩ := hg
  rcases h3 with ⟨ha, hcap, h⟩ | h
  · exact ⟨_, ⟨⟨e, rfl⟩, h1, by dsimp only; rw [h2]; simp, hc, .inl ⟨rfl, ha⟩⟩, h⟩
  · exact ⟨_, ⟨⟨e, rfl⟩, h1, by dsimp only; rw [h2]; simp, hc, .inr rfl⟩, h⟩

def bI (x : Int) : UInt8 := UInt8.ofNat x.toNat
theorem bI_of {x : Int} (h : ∃ y, x = IntKind.u8.wrap y) : Value.int .u8 x = u8v (bI x) ∧ ((bI x).toNat : Int) = x := by
  obtain ⟨y, rfl⟩ := h
  have h : 0 ≤ IntKind.u8.wrap y ∧ IntKind.u8.wrap y ≤ 255 := by rw [IntKind.wrap_u8]; omega
  have h2 : ((bI (IntKind.u8.wrap y)).toNat : Int) = IntKind.u8.wrap y := by
    rw [bI, UInt8.toNat_ofNat']; omega
  exact ⟨by rw [u8v, h2], h2⟩
/-- The byte of a number. -/
def by8 (x : Int) : UInt8 := bI (IntKind.u8.wrap x)
theorem by8_v (x : Int) : Value.int .u8 (IntKind.u8.wrap x) = u8v (by8 x) := (bI_of ⟨x, rfl⟩).1
theorem by8_n (x : Int) : ((by8 x).toNat : Int) = IntKind.u8.wrap x := (bI_of ⟨x, rfl⟩).2

/-! ### what is made of zeros -/
section
variable {P : Program}
theorem made_one (z0 : Value) (n : Nat) : (madeCells #[z0] n).toList = List.replicate n z0 := by
  refine List.ext_getElem (by simp [madeCells]) fun i h1 h2 => ?_
  simp only [madeCells, Array.toList_map, Array.toList_range, List.getElem_map, List.getElem_range, List.getElem_replicate]
  have : i % (#[z0] : Array Value).size = 0 := by simp [Nat.mod_one]
  rw [this]; rfl
theorem St.makeN (h : St w0 w G) {t e : TypeId} {by_ : Nat} [et : Et P t e 1 by_] (z0 : Value) (hz : ((P.info? e).bind fun i => i.zero.map (·.cells)) = some #[z0]) (h1 : z0.oneCell' = true) {kl kc : IntKind} {l c : Int} (n : Nat) (hl : l = (n : Int)) (hc : c = (n : Int)) (hb : (by_ : Int) * n ≤ 281474976710656) (h63 : n ≤ 9223372036854775807) {K : Sl → World → Prop}
    (hk : ∀ (s' : Sl) w', s'.len = n → s'.cap = n → St w0 w' ([.row e 1 s' (List.replicate n z0)] :: G) → K s' w') :
    RunN P .sl (V (Instr.makeSlice t (.int kl l) (.int kc c))) w K := by
  subst hl; subst hc
  obtain ⟨i, z, hi, hzz, e1, e2, e3⟩ := et.h.hi
  have hzc : z.cells = #[z0] := by
    rw [hi] at hz; simp [hzz] at hz; exact hz
  have hr := run_make (P := P) w t e i z et.h.ht hi hzz kl kc n n (by omega) (Int.le_refl _) (by rw [e2]; exact hb) (by omega)
  rw [e1, hzc, Int.toNat_natCast, Nat.mul_one] at hr
  refine RunN.of (kd := .sl) (x := ⟨some ⟨w.heap.size, 0, none⟩, n, n⟩) hr (hk _ _ rfl rfl (h.new (Upd.alloc _ _ _) ⟨?_, fun v hv => ?_⟩ fun j hj => ?_))
  · have hl := made_one z0 n
    have := Ow.lit (w := w) (e := e) (sz := 1) (n := n) (c := n) (cs := (madeCells #[z0] n).toList) h.upd.size (Nat.le_refl n) (by simp only [maxLen]; omega) (by rw [hl]; simp)
    rw [hl, Nat.mul_one, List.take_of_length_le (by simp)] at this
    have e4 : (⟨List.replicate n z0⟩ : Array Value) = madeCells #[z0] n := by rw [← hl]
    rw [e4] at this
    exact this
  · simp only [Ent.vals] at hv
    rw [(List.mem_replicate.1 hv).2]; exact h1
  · simp [Ent.blk, Sl.blk] at hj; omega
end
end Go.Fw
