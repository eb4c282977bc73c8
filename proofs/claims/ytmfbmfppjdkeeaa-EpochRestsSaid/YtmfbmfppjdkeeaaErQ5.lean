/- Words and steps, part 5: What every law of epochs reads of its arguments. A store into memory that is owned. Variables and rows in memory: what is loaded, stored, copied, cleared. Memory of one's own as a list of groups: one hypothesis carries all of it from step to step. Parts of slices, copies, what is made, what is compared: in the form of groups. What shelves of answers are made of: lists of slices, lists of texts, one that has grown from another; a row made of zeros. Rows of any one-cell values that grow. Arrays: a place of one, one as a slice; copies into a piece of any type. Groups in another order, some of them left; a loop's measure that looks at memory. Maps with keys of two numbers; structs of numbers compared. -/
import Derived.Test.YtmfbmfppjdkeeaaRows
import Derived.Deep.CondSized
import Derived.Laws.Small
import Derived.Lib.SlBytesConst
import Derived.WideKeyRuns
import Derived.Laws.StructEq
import Derived.Test.YtmfbmfppjdkeeaaErQ4
/- What every law of epochs reads of its arguments. -/
namespace Go.Proofs.Ytmfbmfppjdkeeaa
open Go.ChangeShapes Go.WideShapes Go.ChangeAt Go.RowKit Go Go.Fw
set_option linter.unusedVariables false
set_option linter.unusedSimpArgs false
set_option maxRecDepth 20000

theorem own : ownKnob Try.prog.godebug = none := by kernel_rfl
theorem laidOut : laidOutB Try.prog = true := by kernel_rfl
theorem u3 : Try.prog.underlying 3 = some (.int .i64) := by kernel_rfl
theorem u4 : Try.prog.underlying 4 = some .bool := by kernel_rfl
theorem field_of {fs : Array Field} {l : List (TypeId × Nat)} (h : fs.toList.map (fun f => (f.type, f.offset)) = l) {i : Nat} {p : TypeId × Nat} (hi : l[i]? = some p) : ∃ f, fs[i]? = some f ∧ f.type = p.1 ∧ f.offset = p.2 := by
  rw [← h, List.getElem?_map, Option.map_eq_some_iff] at hi
  obtain ⟨f, hf, rfl⟩ := hi
  exact ⟨f, by simpa using hf, rfl, rfl⟩
theorem trodAll_three {H : Type} {enc : TypeId × Value → H} {P : Program} {w : World} {base : Nat} {spare : Nat → Bool} {held : Bool} {t0 t1 t2 : TypeId} {args : Array Value} {ds : List (DataW H)} {ps : List MemPlace} (h : DataW.TrodAll enc P w base spare held [t0, t1, t2] args.toList ds ps) :
    ∃ v0 v1 v2 d0 d1 d2 p0 p1 p2, args = #[v0, v1, v2] ∧ ds = [d0, d1, d2] ∧ ps = p0 ++ (p1 ++ p2) ∧ DataW.Trod enc P w base spare held t0 v0 d0 p0 ∧ DataW.Trod enc P w base spare held t1 v1 d1 p1 ∧ DataW.Trod enc P w base spare held t2 v2 d2 p2 := by
  obtain ⟨v0, vs0, d0, ds0, p0, q0, hargs, rfl, rfl, h0, h⟩ := trodAll_cons h
  obtain ⟨v1, vs1, d1, ds1, p1, q1, rfl, rfl, rfl, h1, h⟩ := trodAll_cons h
  obtain ⟨v2, vs2, d2, ds2, p2, q2, rfl, rfl, rfl, h2, h⟩ := trodAll_cons h
  obtain ⟨rfl, rfl, rfl⟩ := trodAll_nil h
  exact ⟨v0, v1, v2, d0, d1, d2, p0, p1, p2, by cases args; simp_all, rfl, by simp, h0, h1, h2⟩
end Go.Proofs.Ytmfbmfppjdkeeaa

/- A store into memory that is owned. -/
namespace Go.Fw
open Go Go.RowKit

/-- A place of an owned slice: what it holds, that it may be written, and what is owned then. -/
theorem Ow.place {w : World} {base : Nat} {E : TypeId} {sz : Nat} {s : Sl} {vs : List Value} (h : Ow w base E sz s vs) {i : Nat} (hi : i < vs.length) :
    ∃ g o, s.a = some ⟨g, o, none⟩ ∧ s.blk = some g ∧ w.frozen? ⟨g, o + i, none⟩ = false ∧ w.cell? ⟨g, o + i, none⟩ = some vs[i] ∧
      ∀ v, Ow (w.setCell ⟨g, o + i, none⟩ v) base E sz s (vs.set i v) := by
  have hl := h.1
  rcases h.2 with rfl | ⟨g, o, cs, ha, hb, hg, h1, h2, h3, h4⟩
  · simp at hl; simp [hl] at hi
  have hle : s.len * sz ≤ s.cap * sz := Nat.mul_le_mul_right _ h1
  have hcl : o + i < cs.length := by omega
  refine ⟨g, o, ha, by simp [Sl.blk, ha], ?_, ?_, fun v => ⟨by simp [hl], .inr ⟨g, o, cs.set (o + i) v, ha, hb, ?_, h1, h2, by simpa using h3, ?_⟩⟩⟩
  · unfold World.frozen?
    simp only [hg]
    simp
  · rw [cell_of_row w g _ ⟨cs⟩ E (0, 0) hg]
    have : vs[i]? = some vs[i] := List.getElem?_eq_getElem hi
    rw [← this]
    conv => rhs; rw [← h4]
    rw [List.getElem?_take, if_pos (by omega), List.getElem?_drop]; simp
  · unfold World.setCell
    have := (Array.getElem?_eq_some_iff.1 hg)
    obtain ⟨hlt, hge⟩ := this
    simp only [Array.getElem?_modify, if_pos, hg, Option.map_some, Option.isSome_none, Bool.false_eq_true, if_false]
    simp [Array.setIfInBounds, hcl]
  · rw [List.drop_set, if_neg (by omega), Nat.add_sub_cancel_left, List.take_set, h4]
end Go.Fw

/- Variables and rows in memory: what is loaded, stored, copied, cleared. -/
namespace Go.Fw
open Go Go.RowKit
set_option linter.unusedVariables false

/-- A block of cells. -/
def Blk (w : World) (b : Nat) (t : TypeId) (cs : List Value) : Prop := w.heap[b]? = some (.cells ⟨cs⟩ t (0, 0))
theorem Blk.cell {w : World} {b : Nat} {t : TypeId} {cs : List Value} (h : Blk w b t cs) (i : Nat) : w.cell? ⟨b, i, none⟩ = cs[i]? := by
  rw [cell_of_row w b _ ⟨cs⟩ t (0, 0) h]; simp
theorem Blk.lt {w : World} {b : Nat} {t : TypeId} {cs : List Value} (h : Blk w b t cs) : b < w.heap.size := lt_of_obj h
theorem Blk.frozen {w : World} {b : Nat} {t : TypeId} {cs : List Value} (h : Blk w b t cs) (i : Nat) : w.frozen? ⟨b, i, none⟩ = false := by
  unfold World.frozen?
  simp only [show w.heap[(⟨b, i, none⟩ : Addr).block]? = _ from h]; simp
theorem Blk.upd {w w' : World} {S : Nat → Prop} {b : Nat} {t : TypeId} {cs : List Value} (h : Blk w b t cs) (hu : Upd w w' S) (hs : ¬ S b) : Blk w' b t cs := hu.obj h hs
theorem Blk.new (w : World) (t : TypeId) (cs : List Value) : Blk (w.alloc (.cells ⟨cs⟩ t)) w.heap.size t cs := heap_alloc_new w _
theorem Blk.set {w : World} {b : Nat} {t : TypeId} {cs : List Value} (h : Blk w b t cs) (i : Nat) (v : Value) : Blk (w.setCell ⟨b, i, none⟩ v) b t (cs.set i v) := by
  unfold Blk World.setCell
  have hb : w.heap[b]? = some (.cells ⟨cs⟩ t (0, 0)) := h
  simp only [Array.getElem?_modify, if_pos, hb, Option.map_some, Option.isSome_none, Bool.false_eq_true, if_false]
  by_cases hi : i < cs.length
  · simp [Array.setIfInBounds, hi]
  · rw [List.set_eq_of_length_le (by omega)]
    simp [Array.setIfInBounds, hi]
theorem Blk.row {w : World} {b : Nat} {t : TypeId} {cs : List Value} (h : Blk w b t cs) (ds : List Value) : Blk (w.setRow b ds.toArray) b t ds := setRow_heap w b _ _ t _ h

section
variable {P : Program} {w : World}
def aggB (P : Program) (t : TypeId) (n : Nat) : Bool :=
  match P.underlying t with
  | some (.struct _) => (match P.info? t with | some i => Nat.beq i.size n | none => false)
  | some (.array _ _) => (match P.info? t with | some i => Nat.beq i.size n | none => false)
  | _ => false
theorem aggB_spec {t : TypeId} {n : Nat} (h : aggB P t n = true) : ((isAgg t).run P w = .ok true w) ∧ (sizeOf t).run P w = .ok n w := by
  unfold aggB at h
  have key : ∀ i, P.info? t = some i → Nat.beq i.size n = true → (sizeOf t).run P w = .ok n w := by
    intro i hi hn
    have := Nat.eq_of_beq_eq_true hn
    simp [sizeOf, typeInfo, hi, this]
  split at h
  · rename_i fs hu
    split at h
    · rename_i i hi
      exact ⟨by simp [isAgg, run_underlying hu], key i hi h⟩
    · cases h
  · rename_i m e hu
    split at h
    · rename_i i hi
      exact ⟨by simp [isAgg, run_underlying hu], key i hi h⟩
    · cases h
  · cases h
theorem run_loadAgg {t : TypeId} {n : Nat} (ht : aggB P t n = true) {b o : Nat} {cs : List Value} (hn : cs.length = n) (hc : ∀ i v, cs[i]? = some v → w.cell? ⟨b, o + i, none⟩ = some v) :
    (Instr.loadAt t (.pointer (some ⟨b, o, none⟩))).run P w = .ok (.agg ⟨cs⟩) w := by
  obtain ⟨h1, h2⟩ := aggB_spec (w := w) ht
  have hl := run_loadCells_list (P := P) w ⟨b, o, none⟩ cs (fun j u hu => by rw [add_lit']; exact hc j u hu)
  rw [hn] at hl
  simp [Instr.loadAt, Instr.sureAddr, loadVar, h1, h2, hl]
theorem Blk.load {t t' : TypeId} {n : Nat} (ht : aggB P t n = true) {b : Nat} {cs : List Value} (h : Blk w b t' cs) (hn : cs.length = n) : (Instr.loadAt t (.pointer (some ⟨b, 0, none⟩))).run P w = .ok (.agg ⟨cs⟩) w :=
  run_loadAgg ht hn fun i v hv => by rw [Nat.zero_add, h.cell]; exact hv
theorem Rd.load {t : TypeId} {n : Nat} (ht : aggB P t n = true) {s : Sl} {vs : List Value} (h : Rd w s n vs) {b o : Nat} (ha : s.a = some ⟨b, o, none⟩) {i : Nat} (hi : i < s.len) :
    (Instr.loadAt t (.pointer (some ⟨b, o + i * n, none⟩))).run P w = .ok (.agg ⟨(vs.drop (i * n)).take n⟩) w := by
  have hle : (i + 1) * n ≤ s.len * n := Nat.mul_le_mul_right _ hi
  rw [Nat.add_mul, Nat.one_mul] at hle
  have hl := h.1
  refine run_loadAgg ht (by simp; omega) fun j v hv => ?_
  rw [List.getElem?_take] at hv
  split at hv
  · rw [List.getElem?_drop] at hv
    rcases h.2.1 with h0 | ⟨b', o', ha', hc⟩
    · subst h0; simp at hv
    · rw [ha] at ha'; cases ha'
      rw [Nat.add_assoc]; exact hc _ v hv
  · cases hv

theorem run_storAgg {t : TypeId} {n : Nat} (ht : aggB P t n = true) {b o : Nat} {cs : List Value} (hn : cs.length = n) {w' : World} (hs : (storeCells ⟨b, o, none⟩ cs 0).run P w = .ok () w') :
    (Instr.storeAt t (.pointer (some ⟨b, o, none⟩)) (.agg ⟨cs⟩)).run P w = .ok () w' := by
  obtain ⟨h1, h2⟩ := aggB_spec (w := w) ht
  simp [Instr.storeAt, Instr.sureAddr, storeVar, Value.cells, h2, hn, hs]
theorem Blk.store {b : Nat} {t : TypeId} {cs : List Value} (h : Blk w b t cs) {o : Nat} {news : List Value} (hfit : o + news.length ≤ cs.length) (h1 : ∀ v ∈ news, v.oneCell' = true) :
    (storeCells ⟨b, o, none⟩ news 0).run P w = .ok () (w.setRow b (cs.take o ++ news ++ cs.drop (o + news.length)).toArray) := by
  have := run_storeCells_at P b o t news 0 ⟨cs⟩ w h (by simpa using hfit) h1
  simpa using this
/-- Store a whole variable. -/
theorem Blk.stor {t t' : TypeId} {n : Nat} (ht : aggB P t n = true) {b : Nat} {cs ds : List Value} (h : Blk w b t' cs) (hc : cs.length = n) (hd : ds.length = n) (h1 : ∀ v ∈ ds, v.oneCell' = true) :
    (Instr.storeAt t (.pointer (some ⟨b, 0, none⟩)) (.agg ⟨ds⟩)).run P w = .ok () (w.setRow b ds.toArray) := by
  have := Blk.store (P := P) h (o := 0) (news := ds) (by omega) h1
  rw [List.take_zero, List.nil_append, Nat.zero_add, List.drop_of_length_le (by omega), List.append_nil] at this
  exact run_storAgg ht hd this

/-- Some cells of an owned row are written. -/
theorem Ow.write {base : Nat} {E : TypeId} {sz : Nat} {s : Sl} {vs : List Value} (h : Ow w base E sz s vs) {i : Nat} {news : List Value} (hi : i + news.length ≤ vs.length) (hne : news ≠ []) (h1 : ∀ v ∈ news, v.oneCell' = true) :
    ∃ g o, s.a = some ⟨g, o, none⟩ ∧ s.blk = some g ∧ ∃ w', (storeCells ⟨g, o + i, none⟩ news 0).run P w = .ok () w' ∧ Ow w' base E sz s (vs.take i ++ news ++ vs.drop (i + news.length)) ∧ Upd w w' (fun k => k = g) := by
  have hl := h.1
  rcases h.2 with rfl | ⟨g, o, cs, ha, hb, hg, h2, h3, h4, h5⟩
  · have hv : vs.length = 0 := by rw [hl]; simp
    have : news.length = 0 := by omega
    exact absurd (List.eq_nil_of_length_eq_zero this) hne
  have hle : s.len * sz ≤ s.cap * sz := Nat.mul_le_mul_right _ h2
  have hst := Blk.store (P := P) (w := w) (b := g) (t := E) (cs := cs) hg (o := o + i) (news := news) (by omega) h1
  refine ⟨g, o, ha, by simp [Sl.blk, ha], _, hst, ⟨by simp; omega, .inr ⟨g, o, _, ha, hb, setRow_heap w g ⟨cs⟩ _ E _ hg, h2, h3, by simp; omega, ?_⟩⟩, Upd.setRow _ _ _ rfl⟩
  have hlen1 : (cs.take (o + i)).length = o + i := by simp; omega
  rw [List.append_assoc, List.drop_append_of_le_length (by rw [hlen1]; omega), List.drop_take]
  have e1 : o + i - o = i := by omega
  rw [e1]
  have e2 : (cs.drop o).take i = vs.take i := by rw [← h5, List.take_take]; congr 1; omega
  rw [e2]
  have hlen2 : (vs.take i).length = i := by simp; omega
  rw [List.take_append, hlen2, List.take_of_length_le (by omega), List.append_assoc]
  congr 1
  rw [List.take_append, List.take_of_length_le (by omega)]
  congr 1
  rw [← h5, List.drop_take, List.drop_drop]
  congr 1
  · omega
  · congr 1; omega

/-- s[l:h] -/
theorem run_subLH {t e : TypeId} {sz by_ : Nat} (et : ET P t e sz by_) {s : Sl} {kl kh : IntKind} {l h : Int} (h0 : 0 ≤ l) (h1 : l ≤ h) (h2 : h ≤ s.cap) :
    (Instr.sliceAt t (.slice s.a s.len s.cap) (some (.int kl l)) (some (.int kh h)) none).run P w = .ok (.slice (if s.cap = l.toNat then s.a else s.a.map (·.add (l.toNat * sz))) (h.toNat - l.toNat) (s.cap - l.toNat)) w := by
  rw [run_sliceAt_slice w t _ _ _ _ (elem_of et), run_slice_lh w t s.a s.len s.cap (elem_of et) kl kh l h h0 h1 h2, run_size et]
  rfl
theorem run_subL {t e : TypeId} {sz by_ : Nat} (et : ET P t e sz by_) {s : Sl} {k : IntKind} {l : Int} (h0 : 0 ≤ l) (h2 : l ≤ s.len) :
    (Instr.sliceAt t (.slice s.a s.len s.cap) (some (.int k l)) none none).run P w = .ok (.slice (if s.cap = l.toNat then s.a else s.a.map (·.add (l.toNat * sz))) (s.len - l.toNat) (s.cap - l.toNat)) w := by
  rw [run_sliceAt_slice w t _ _ _ _ (elem_of et), run_slice_l w t s.a s.len s.cap (elem_of et) k l h0 h2, run_size et]
  rfl
theorem run_subH {t e : TypeId} {sz by_ : Nat} (et : ET P t e sz by_) {s : Sl} {k : IntKind} {h : Int} (h0 : 0 ≤ h) (h2 : h ≤ s.cap) :
    (Instr.sliceAt t (.slice s.a s.len s.cap) none (some (.int k h)) none).run P w = .ok (.slice (if s.cap = 0 then s.a else s.a.map (·.add (0 * sz))) h.toNat s.cap) w := by
  rw [run_sliceAt_slice w t _ _ _ _ (elem_of et), run_slice_h w t s.a s.len s.cap (elem_of et) k h h0 h2, run_size et]
  rfl

theorem Rd.loads {sz : Nat} {s : Sl} {vs : List Value} (h : Rd w s sz vs) {n : Nat} (hn : n ≤ s.len) (hne : 0 < n * sz) : ∃ b o, s.a = some ⟨b, o, none⟩ ∧ (loadCells ⟨b, o, none⟩ (n * sz)).run P w = .ok (vs.take (n * sz)).toArray w := by
  have hle : n * sz ≤ s.len * sz := Nat.mul_le_mul_right _ hn
  have hl := h.1
  rcases h.2.1 with h0 | ⟨b, o, ha, hc⟩
  · subst h0; simp at hl; omega
  · refine ⟨b, o, ha, ?_⟩
    have hlen : (vs.take (n * sz)).length = n * sz := by simp; omega
    have := run_loadCells_list (P := P) w ⟨b, o, none⟩ (vs.take (n * sz)) (fun j u hu => by
      rw [add_lit']
      rw [List.getElem?_take] at hu
      split at hu
      · exact hc j u hu
      · cases hu)
    rw [hlen] at this; exact this

/-- copy, into a part of an owned row, of whatever may be read, be it of the same row. -/
theorem run_copyOw {base : Nat} {t ts ty e : TypeId} {sz by_ : Nat} (et : ET P t e sz by_) (ets : (P.underlying ts).isSome = true) (hsz : 0 < sz) {s : Sl} {vs : List Value} (ho : Ow w base e sz s vs) {i dl dc : Nat} {da : Option Addr}
    (hda : ∀ g o, s.a = some ⟨g, o, none⟩ → 0 < dl → da = some ⟨g, o + i * sz, none⟩) (hdl : i + dl ≤ s.len) {src : Sl} {ws : List Value} (hr : Rd w src sz ws) (h1 : ∀ v ∈ ws, v.oneCell' = true) :
    ∃ w', (Builtin.copy_ #[t, ts] ty #[.slice da dl dc, .slice src.a src.len src.cap]).run P w = .ok (.int .i64 (Nat.min src.len dl : Nat)) w' ∧
      Ow w' base e sz s (vs.take (i * sz) ++ ws.take (Nat.min src.len dl * sz) ++ vs.drop ((i + Nat.min src.len dl) * sz)) ∧ Upd w w' (fun k => s.blk = some k) := by
  obtain ⟨j, z, hi, hz, h2, h3, h4⟩ := et.hi
  have hmin1 : Nat.min src.len dl ≤ src.len := Nat.min_le_left _ _
  have hmin2 : Nat.min src.len dl ≤ dl := Nat.min_le_right _ _
  generalize hn : Nat.min src.len dl = n at *
  have hgo : goInt n = (.int .i64 (n : Int) : Value) := rfl
  by_cases h0 : n = 0
  · subst h0
    refine ⟨w, ?_, ?_, Upd.refl _ _⟩
    · have hfc : (Builtin.firstCells sz 0 (.slice src.a src.len src.cap)).run P w = .ok #[] w := by
        cases src.a <;> simp [Builtin.firstCells, loadCells, loadCellsFrom]
      cases da <;> simp [Builtin.copy_, run_underlying et.ht, Builtin.lenOf, sizeOf, typeInfo, hi, h2, hn, hfc, storeCells] <;> rfl
    · simp only [Nat.zero_mul, List.take_zero, List.append_nil, Nat.add_zero, List.take_append_drop]; exact ho
  · have hpos : 0 < n * sz := Nat.mul_pos (by omega) hsz
    obtain ⟨b, o, ha, hl⟩ := hr.loads (P := P) (n := n) (by omega) hpos
    have hlw : (ws.take (n * sz)).length = n * sz := by
      have h5 := hr.1
      have h6 : n * sz ≤ src.len * sz := Nat.mul_le_mul_right _ hmin1
      simp; omega
    have hlv := ho.1
    have hfit : (i + n) * sz ≤ s.len * sz := Nat.mul_le_mul_right _ (by omega)
    rw [Nat.add_mul] at hfit
    obtain ⟨g, o', hsa, hblk, w', hst, how, hup⟩ := ho.write (P := P) (i := i * sz) (news := ws.take (n * sz)) (by omega) (by intro e; rw [e] at hlw; simp at hlw; omega) (fun v hv => h1 v (List.mem_of_mem_take hv))
    have hd := hda g o' hsa (by omega)
    refine ⟨w', ?_, ?_, hup.mono fun k _ hk => by rw [hblk, hk]⟩
    · rw [hd, ha]
      simp [Builtin.copy_, run_underlying et.ht, Builtin.lenOf, Builtin.firstCells, sizeOf, typeInfo, hi, h2, hn, hl, hst, hgo]
    · rw [hlw, ← Nat.add_mul] at how; exact how

/-- clear, of the end of an owned row. -/
theorem run_clearOw {base : Nat} {t ty e : TypeId} {sz by_ : Nat} (et : ET P t e sz by_) {s : Sl} {vs : List Value} (ho : Ow w base e sz s vs) {i n c : Nat} {a : Option Addr} {zs : List Value} (hz : (do pure (Builtin.zeroCells (← zeroValue e).cells n).toList : Sem (List Value)).run P w = .ok zs w)
    (hzl : zs.length = n * sz) (hz1 : ∀ v ∈ zs, v.oneCell' = true) (hn : 0 < n * sz) (ha : ∀ g o, s.a = some ⟨g, o, none⟩ → a = some ⟨g, o + i * sz, none⟩) (hfit : i + n ≤ s.len) :
    ∃ w', (Builtin.clear_ #[t] ty #[.slice a n c]).run P w = .ok (.tuple #[]) w' ∧ Ow w' base e sz s (vs.take (i * sz) ++ zs ++ vs.drop ((i + n) * sz)) ∧ Upd w w' (fun k => s.blk = some k) := by
  have hlv := ho.1
  have hfit' : (i + n) * sz ≤ s.len * sz := Nat.mul_le_mul_right _ hfit
  rw [Nat.add_mul] at hfit'
  obtain ⟨g, o', hsa, hblk, w', hst, how, hup⟩ := ho.write (P := P) (i := i * sz) (news := zs) (by omega) (by intro e; rw [e] at hzl; simp at hzl; omega) hz1
  have hd := ha g o' hsa
  refine ⟨w', ?_, ?_, hup.mono fun k _ hk => by rw [hblk, hk]⟩
  · rw [hd]
    have hn0 : n ≠ 0 := by intro e; subst e; simp at hn
    obtain ⟨m, rfl⟩ : ∃ m, n = m + 1 := ⟨n - 1, by omega⟩
    simp only [Sem.run_bind] at hz
    cases hq : (zeroValue e).run P w with
    | ok v w1 =>
      rw [hq] at hz
      simp at hz
      obtain ⟨hz, rfl⟩ := hz
      simp [Builtin.clear_, run_underlying et.ht, hq, hz, hst]
    | _ => rw [hq] at hz; simp at hz
  · rw [hzl, ← Nat.add_mul] at how; exact how
/-- A shorter view of an owned row, from its beginning. -/
theorem Ow.shorter {base : Nat} {E : TypeId} {sz : Nat} {s : Sl} {vs : List Value} (h : Ow w base E sz s vs) {n : Nat} (hn : n ≤ s.len) {a : Option Addr} (ha : a = s.a) : Ow w base E sz ⟨a, n, s.cap⟩ (vs.take (n * sz)) := by
  subst ha
  have hle : n * sz ≤ s.len * sz := Nat.mul_le_mul_right _ hn
  have hl := h.1
  refine ⟨by simp; omega, ?_⟩
  rcases h.2 with rfl | ⟨g, o, cs, ha, hb, hg, h2, h3, h4, h5⟩
  · left; simp at hn; subst hn; rfl
  · right
    refine ⟨g, o, cs, ha, hb, hg, by dsimp only; omega, h3, h4, ?_⟩
    rw [← h5, List.take_take]; congr 1; dsimp only; omega

/-! ### in continuation style -/
theorem RunU.storB {t t' : TypeId} (ht : scB P t = true) {b i : Nat} {cs : List Value} (h : Blk w b t' cs) (hi : i < cs.length) {v : Value} (hv : v.oneCell' = true) {K : World → Prop} (hk : ∀ w', Blk w' b t' (cs.set i v) → Upd w w' (fun k => k = b) → K w') :
    RunU P (U (Instr.storeAt t (.pointer (some ⟨b, i, none⟩)) v)) w K :=
  RunU.stor ht hv (by rw [h.cell, List.getElem?_eq_getElem hi]) (h.frozen i) (hk _ (h.set i v) (Upd.setCell _ _ _ rfl))
theorem RunU.storA {t t' : TypeId} {n : Nat} (ht : aggB P t n = true) {b : Nat} {cs ds : List Value} (h : Blk w b t' cs) (hc : cs.length = n) (hd : ds.length = n) (h1 : ∀ v ∈ ds, v.oneCell' = true) {K : World → Prop} (hk : ∀ w', Blk w' b t' ds → Upd w w' (fun k => k = b) → K w') :
    RunU P (U (Instr.storeAt t (.pointer (some ⟨b, 0, none⟩)) (.agg ⟨ds⟩))) w K :=
  RunU.of (h.stor ht hc hd h1) (hk _ (h.row ds) (Upd.setRow _ _ _ rfl))
theorem RunN.loadB {t t' : TypeId} (ht : scB P t = true) {kd : Kd} {b i : Nat} {cs : List Value} (h : Blk w b t' cs) {x : kd.T} (hi : cs[i]? = some (kd.val x)) {K : kd.T → World → Prop} (hk : K x w) : RunN P kd (V (Instr.loadAt t (.pointer (some ⟨b, i, none⟩)))) w K :=
  RunN.load ht (by rw [h.cell]; exact hi) hk
theorem ReadN.loadB {t t' : TypeId} (ht : scB P t = true) {kd : Kd} {b i : Nat} {cs : List Value} (h : Blk w b t' cs) {x : kd.T} (hi : cs[i]? = some (kd.val x)) {K : kd.T → Prop} (hk : K x) : ReadN P kd (V (Instr.loadAt t (.pointer (some ⟨b, i, none⟩)))) w K :=
  ReadN.load ht (by rw [h.cell]; exact hi) hk
theorem RunN.loadA {t t' : TypeId} {n : Nat} (ht : aggB P t n = true) {kd : Kd} {b : Nat} {cs : List Value} (h : Blk w b t' cs) (hn : cs.length = n) {x : kd.T} (hx : kd.val x = .agg ⟨cs⟩) {K : kd.T → World → Prop} (hk : K x w) : RunN P kd (V (Instr.loadAt t (.pointer (some ⟨b, 0, none⟩)))) w K :=
  RunN.of (by rw [hx]; exact h.load ht hn) hk
theorem ReadN.loadA {t t' : TypeId} {n : Nat} (ht : aggB P t n = true) {kd : Kd} {b : Nat} {cs : List Value} (h : Blk w b t' cs) (hn : cs.length = n) {x : kd.T} (hx : kd.val x = .agg ⟨cs⟩) {K : kd.T → Prop} (hk : K x) : ReadN P kd (V (Instr.loadAt t (.pointer (some ⟨b, 0, none⟩)))) w K :=
  ReadN.of (by rw [hx]; exact h.load ht hn) hk
theorem StillV.loadB {t t' : TypeId} (ht : scB P t = true) {b i : Nat} {cs : List Value} (h : Blk w b t' cs) {v : Value} (hi : cs[i]? = some v) : StillV P (V (Instr.loadAt t (.pointer (some ⟨b, i, none⟩)))) v w :=
  StillV.load ht (by rw [h.cell]; exact hi)
theorem StillV.loadA {t t' : TypeId} {n : Nat} (ht : aggB P t n = true) {b : Nat} {cs : List Value} (h : Blk w b t' cs) (hn : cs.length = n) : StillV P (V (Instr.loadAt t (.pointer (some ⟨b, 0, none⟩)))) (.agg ⟨cs⟩) w :=
  StillV.of (h.load ht hn)
/-- A new variable, whose law is known by computation. -/
theorem RunN.newB {s : Sem Value} {cs : List Value} {t : TypeId} (hr : s.run P w = .ok (.pointer (some ⟨w.heap.size, 0, none⟩)) (w.alloc (.cells ⟨cs⟩ t))) {K : Addr → World → Prop}
    (hk : ∀ w', Blk w' w.heap.size t cs → Upd w w' nobody → w'.heap.size = w.heap.size + 1 → K ⟨w.heap.size, 0, none⟩ w') : RunN P .addr (V s) w K :=
  RunN.of (kd := .addr) (x := ⟨w.heap.size, 0, none⟩) hr (hk _ (Blk.new _ _ _) (Upd.alloc _ _ _) (by simp))
/-- A new literal row. -/
theorem RunN.newS {base : Nat} {s : Sem Value} {cs : List Value} {t : TypeId} {n sz : Nat} (hr : s.run P w = .ok (.slice (some ⟨w.heap.size, 0, none⟩) n n) (w.alloc (.cells ⟨cs⟩ t))) (hb : base ≤ w.heap.size) (hn : n ≤ maxLen) (hl : cs.length = n * sz) {K : Sl → World → Prop}
    (hk : ∀ w', Ow w' base t sz ⟨some ⟨w.heap.size, 0, none⟩, n, n⟩ cs → Upd w w' nobody → w'.heap.size = w.heap.size + 1 → K ⟨some ⟨w.heap.size, 0, none⟩, n, n⟩ w') : RunN P .sl (V s) w K := by
  refine RunN.of (kd := .sl) (x := ⟨some ⟨w.heap.size, 0, none⟩, n, n⟩) hr (hk _ ?_ (Upd.alloc _ _ _) (by simp))
  have := Ow.lit (w := w) (e := t) hb (Nat.le_refl n) hn hl
  rwa [List.take_of_length_le (by omega)] at this
/-- Onto what is owned, or nil. -/
theorem RunN.appO {base : Nat} {t tx ty e : TypeId} {sz by_ : Nat} (et : ET P t e sz by_) (etx : ∃ e' , ET P tx e' sz by_) (hsz : 0 < sz) {s : Sl} {xs : List Value} (ho : Ow w base e sz s xs) {p : Sl} {news : List Value} (hr : Rd w p sz news) (h1 : ∀ v ∈ news, v.oneCell' = true)
    (hbase : base ≤ w.heap.size) (h63 : s.len + p.len ≤ maxLen) (hfit : (s.len + p.len) * by_ ≤ 140737488355328) {K : Sl → World → Prop}
    (h : ∀ s' w', s'.len = s.len + p.len → Ow w' base e sz s' (xs ++ news) → Upd w w' (fun k => s.blk = some k) → (s'.blk = s.blk ∨ ∃ g, s'.blk = some g ∧ w.heap.size ≤ g ∧ g < w'.heap.size) → K s' w') :
    RunN P .sl (V (Builtin.append_ #[t, tx] ty #[.slice s.a s.len s.cap, .slice p.a p.len p.cap])) w K := by
  obtain ⟨e', etx⟩ := etx
  exact RunN.app et hsz ho (Src.ofRd etx hsz hr h1) hbase h63 hfit h
/-- A copy: onto nil. -/
theorem RunN.appNil {t tx ty e : TypeId} {sz by_ : Nat} (et : ET P t e sz by_) (etx : ∃ e' , ET P tx e' sz by_) (hsz : 0 < sz) {p : Sl} {news : List Value} (hr : Rd w p sz news) (h1 : ∀ v ∈ news, v.oneCell' = true)
    (h63 : p.len ≤ maxLen) (hfit : p.len * by_ ≤ 140737488355328) {K : Sl → World → Prop}
    (h : ∀ s' w', s'.len = p.len → Ow w' w.heap.size e sz s' news → Upd w w' nobody → K s' w') :
    RunN P .sl (V (Builtin.append_ #[t, tx] ty #[.slice none 0 0, .slice p.a p.len p.cap])) w K :=
  RunN.appO et etx hsz (s := ⟨none, 0, 0⟩) (Ow.nil w w.heap.size e sz) hr h1 (Nat.le_refl _) (by dsimp only; omega) (by dsimp only; rw [Nat.zero_add]; exact hfit)
    fun s' w' h1 h2 h3 _ => h s' w' (by dsimp only at h1; omega) (by rwa [List.nil_append] at h2) (h3.mono fun i _ h => by simp [Sl.blk] at h)
theorem Upd.fresh {a b c : World} {S : Nat → Prop} (h : Upd a b nobody) (k : Upd b c S) (hS : ∀ i, S i → a.heap.size ≤ i) : Upd a c nobody := h.trans' k fun i hi hlt => absurd (hS i hi) (by omega)
theorem Upd.none {a b : World} (h : Upd a b nobody) (S : Nat → Prop) : Upd a b S := h.mono fun _ _ h => h.elim
end
end Go.Fw

/- Memory of one's own as a list of groups: one hypothesis carries all of it from step to step. -/
set_option linter.unusedVariables false
set_option linter.unusedSimpArgs false
namespace Go.Fw
open Go Go.RowKit

/-- A piece of memory: a block of cells, or a slice that is owned up to its capacity. -/
inductive Ent where
  | cel (b : Nat) (t : TypeId) (cs : List Value)
  | row (E : TypeId) (sz : Nat) (s : Sl) (vs : List Value)
  | ro (s : Sl) (sz : Nat) (vs : List Value)
  | obj (b : Nat) (o : Obj)
def Ent.blk : Ent → Option Nat
  | .cel b _ _ => some b
  | .row _ _ s _ => s.blk
  | .ro s _ _ => s.blk
  | .obj b _ => some b
def Ent.vals : Ent → List Value
  | .cel _ _ cs => cs
  | .row _ _ _ vs => vs
  | .ro _ _ vs => vs
  | .obj _ _ => []
def Ent.okM (w : World) (base : Nat) : Ent → Prop
  | .cel b t cs => base ≤ b ∧ Blk w b t cs
  | .row E sz s vs => Ow w base E sz s vs
  | .ro s sz vs => (∀ b, s.blk = some b → base ≤ b ∧ b < w.heap.size) ∧ Rd w s sz vs
  | .obj b o => base ≤ b ∧ w.heap[b]? = some o
def Ent.ok (w : World) (base : Nat) (e : Ent) : Prop := e.okM w base ∧ ∀ v ∈ e.vals, v.oneCell' = true
def Ent.Ap (a b : Ent) : Prop := ∀ k, a.blk = some k → b.blk ≠ some k
theorem Ent.Ap.symm {a b : Ent} (h : a.Ap b) : b.Ap a := fun k hb ha => h k ha hb
theorem Ent.ok.lt {w : World} {base : Nat} {e : Ent} (h : e.ok w base) {k : Nat} (hk : e.blk = some k) : base ≤ k ∧ k < w.heap.size := by
  cases e with
  | cel b t cs => simp [Ent.blk] at hk; subst hk; exact ⟨h.1.1, h.1.2.lt⟩
  | row E sz s vs => exact Ow.lt h.1 hk
  | ro s sz vs => exact h.1.1 k hk
  | obj b o => simp [Ent.blk] at hk; subst hk; exact ⟨h.1.1, lt_of_obj h.1.2⟩
theorem Ent.ok.upd {w w' : World} {S : Nat → Prop} {base : Nat} {e : Ent} (h : e.ok w base) (hu : Upd w w' S) (hs : ∀ k, e.blk = some k → ¬ S k) : e.ok w' base := by
  refine ⟨?_, h.2⟩
  cases e with
  | cel b t cs => exact ⟨h.1.1, h.1.2.upd hu (hs b rfl)⟩
  | row E sz s vs => exact Ow.upd h.1 hu hs
  | ro s sz vs => exact ⟨fun b hb => ⟨(h.1.1 b hb).1, Nat.lt_of_lt_of_le (h.1.1 b hb).2 hu.size⟩, h.1.2.upd hu hs⟩
  | obj b o => exact ⟨h.1.1, hu.obj h.1.2 (hs b rfl)⟩

structure Fl (w0 w : World) (l : List Ent) : Prop where
  upd : Upd w0 w nobody
  ok : ∀ e ∈ l, e.ok w w0.heap.size
  ap : l.Pairwise Ent.Ap
theorem Fl.perm {w0 w : World} {l l' : List Ent} (h : Fl w0 w l) (p : l.Perm l') : Fl w0 w l' :=
  ⟨h.upd, fun e he => h.ok e (p.mem_iff.2 he), h.ap.perm p Ent.Ap.symm⟩
theorem Fl.change {w0 w w' : World} {e : Ent} {es A : List Ent} (h : Fl w0 w (e :: A)) (hu : Upd w w' (fun j => e.blk = some j)) (hok : ∀ e' ∈ es, e'.ok w' w0.heap.size) (hap : es.Pairwise Ent.Ap)
    (hb : ∀ e' ∈ es, ∀ j, e'.blk = some j → e.blk = some j ∨ w.heap.size ≤ j) : Fl w0 w' (es ++ A) := by
  have hA := (List.pairwise_cons.1 h.ap)
  refine ⟨h.upd.fresh hu fun i hi => ((h.ok e (List.mem_cons_self ..)).lt hi).1, fun e'' he => ?_, ?_⟩
  · rcases List.mem_append.1 he with he | he
    · exact hok _ he
    · exact (h.ok e'' (List.mem_cons_of_mem _ he)).upd hu fun k hk hek => hA.1 e'' he k hek hk
  · refine List.pairwise_append.2 ⟨hap, hA.2, fun a ha b hb' k hk hbk => ?_⟩
    rcases hb a ha k hk with h1 | h1
    · exact hA.1 b hb' k h1 hbk
    · have := ((h.ok b (List.mem_cons_of_mem _ hb')).lt hbk).2; omega
theorem Fl.keep {w0 w w' : World} {A : List Ent} (h : Fl w0 w A) (hu : Upd w w' nobody) : Fl w0 w' A :=
  ⟨h.upd.trans hu, fun e he => (h.ok e he).upd hu fun _ _ h => h, h.ap⟩
theorem Fl.join {w0 w w' : World} {A B : List Ent} (h : Fl w0 w A) (h' : Fl w w' B) : Fl w0 w' (B ++ A) := by
  refine ⟨h.upd.trans h'.upd, fun e he => ?_, List.pairwise_append.2 ⟨h'.ap, h.ap, fun a ha b hb k hk hbk => ?_⟩⟩
  · rcases List.mem_append.1 he with he | he
    · have h1 := h'.ok e he
      refine ⟨?_, h1.2⟩
      have hsz := h.upd.size
      cases e with
      | cel b t cs => exact ⟨Nat.le_trans hsz h1.1.1, h1.1.2⟩
      | row E sz s vs => exact Ow.base h1.1 fun b hb => Nat.le_trans hsz (Ow.lt h1.1 hb).1
      | ro s sz vs => exact ⟨fun b hb => ⟨Nat.le_trans hsz (h1.1.1 b hb).1, (h1.1.1 b hb).2⟩, h1.1.2⟩
      | obj b o => exact ⟨Nat.le_trans hsz h1.1.1, h1.1.2⟩
    · exact (h.ok e he).upd h'.upd fun _ _ h => h
  · have h1 := ((h'.ok a ha).lt hk).1
    have h2 := ((h.ok b hb).lt hbk).2
    omega

/-! ### groups -/
def nthO {α : Type} : List α → Nat → Option α
  | [], _ => none
  | x :: _, 0 => some x
  | _ :: r, n + 1 => nthO r n
def setO {α : Type} : List α → Nat → α → List α
  | [], _, _ => []
  | _ :: r, 0, y => y :: r
  | x :: r, n + 1, y => x :: setO r n y
def delO {α : Type} : List α → Nat → List α
  | [], _ => []
  | _ :: r, 0 => r
  | x :: r, n + 1 => x :: delO r n
def insO {α : Type} : Nat → List α → α → List α
  | 0, l, y => y :: l
  | _ + 1, [], y => [y]
  | n + 1, x :: r, y => x :: insO n r y
theorem nthO_perm {α : Type} : ∀ {l : List α} {n : Nat} {x : α}, nthO l n = some x → l.Perm (x :: delO l n)
  | [], _, _, h => by cases h
  | y :: r, 0, x, h => by simp [nthO] at h; subst h; exact .refl _
  | y :: r, n + 1, x, h => ((nthO_perm (l := r) h).cons y).trans (.swap _ _ _)
theorem setO_perm {α : Type} : ∀ {l : List α} {n : Nat} {x : α} (y : α), nthO l n = some x → (setO l n y).Perm (y :: delO l n)
  | [], _, _, _, h => by cases h
  | z :: r, 0, x, y, h => .refl _
  | z :: r, n + 1, x, y, h => ((setO_perm (l := r) y h).cons z).trans (.swap _ _ _)
theorem insO_perm {α : Type} : ∀ (l : List α) (n : Nat) (y : α), (insO n l y).Perm (y :: l)
  | l, 0, y => .refl _
  | [], n + 1, y => .refl _
  | z :: r, n + 1, y => ((insO_perm r n y).cons z).trans (.swap _ _ _)
theorem nthO_get {α : Type} (l : List α) (n : Nat) : nthO l n = l[n]? := by
  induction l generalizing n with
  | nil => rfl
  | cons x r ih => cases n with
    | zero => rfl
    | succ n => simpa [nthO] using ih n
theorem setO_set {α : Type} (l : List α) (n : Nat) (y : α) : setO l n y = l.set n y := by
  induction l generalizing n with
  | nil => rfl
  | cons x r ih => cases n with
    | zero => rfl
    | succ n => simpa [setO] using ih n

abbrev Grps := List (List Ent)
structure St (w0 w : World) (G : Grps) : Prop where
  fl : Fl w0 w G.flatten
/-- The i-th piece of the k-th group. -/
def Has (G : Grps) (k i : Nat) (e : Ent) : Prop := ∃ g, nthO G k = some g ∧ nthO g i = some e
def updG : Grps → Nat → Nat → List Ent → Grps
  | [], _, _, _ => []
  | g :: r, 0, i, es => (match es with | [e] => setO g i e | _ => es ++ delO g i) :: r
  | g :: r, k + 1, i, es => g :: updG r k i es
theorem updG_perm : ∀ {G : Grps} {k i : Nat} {e : Ent} (es : List Ent), Has G k i e → ∃ A, G.flatten.Perm (e :: A) ∧ (updG G k i es).flatten.Perm (es ++ A)
  | [], k, i, e, es, ⟨g, h, _⟩ => by cases h
  | g :: r, 0, i, e, es, ⟨g', h, h'⟩ => by
    simp [nthO] at h; subst h
    refine ⟨delO g i ++ r.flatten, ?_, ?_⟩
    · simp only [List.flatten_cons]
      exact (nthO_perm h').append_right _
    · simp only [updG, List.flatten_cons]
      have : (match es with | [e] => setO g i e | _ => es ++ delO g i).Perm (es ++ delO g i) := by
        split
        · exact setO_perm _ h'
        · exact .refl _
      rw [← List.append_assoc]
      exact this.append_right _
  | g :: r, k + 1, i, e, es, ⟨g', h, h'⟩ => by
    obtain ⟨A, h1, h2⟩ := updG_perm (G := r) es ⟨g', h, h'⟩
    refine ⟨g ++ A, ?_, ?_⟩
    · simp only [List.flatten_cons]
      exact (h1.append_left g).trans List.perm_middle
    · simp only [updG, List.flatten_cons]
      refine (h2.append_left g).trans ?_
      rw [← List.append_assoc, ← List.append_assoc]
      exact List.perm_append_comm.append_right _

namespace St
variable {P : Program} {w0 w w' : World} {G : Grps}

theorem init (w : World) : St w w [] := ⟨⟨Upd.refl _ _, fun e he => by simp at he, by simp⟩⟩
theorem upd (h : St w0 w G) : Upd w0 w nobody := h.fl.upd
theorem keep (h : St w0 w G) (hu : Upd w w' nobody) : St w0 w' G := ⟨h.fl.keep hu⟩
theorem drew (h : St w0 w G) : St w0 w.drew G := h.keep (Upd.drew _ _)
theorem perm {G' : Grps} (h : St w0 w G) (p : G.flatten.Perm G'.flatten) : St w0 w G' := ⟨h.fl.perm p⟩
theorem join {G' : Grps} (h : St w0 w G) (h' : St w w' G') : St w0 w' (G' ++ G) := ⟨by rw [List.flatten_append]; exact h.fl.join h'.fl⟩
theorem bring (h : St w0 w G) (k : Nat) {g : List Ent} (hk : nthO G k = some g) : St w0 w (g :: delO G k) := h.perm (nthO_perm hk).flatten
theorem back {g : List Ent} (h : St w0 w (g :: G)) (k : Nat) : St w0 w (insO k G g) := h.perm (insO_perm G k g).symm.flatten
theorem drop (h : St w0 w G) (k : Nat) : St w0 w (delO G k) := by
  cases hk : nthO G k with
  | none =>
    have : delO G k = G := by
      clear h
      induction G generalizing k with
      | nil => rfl
      | cons x r ih => cases k with
        | zero => cases hk
        | succ k => simp [delO, ih k hk]
    rw [this]; exact h
  | some g =>
    have := (h.bring k hk).fl
    rw [List.flatten_cons] at this
    exact ⟨⟨this.upd, fun e he => this.ok e (List.mem_append_right _ he), (List.pairwise_append.1 this.ap).2.1⟩⟩
theorem one {e : Ent} {g : List Ent} : St w0 w ((e :: g) :: G) ↔ St w0 w ([e] :: g :: G) := by
  constructor <;> exact fun h => h.perm (by simp)
theorem two {a b : List Ent} : St w0 w ((a ++ b) :: G) ↔ St w0 w (a :: b :: G) := by
  constructor <;> exact fun h => h.perm (by simp)
theorem empty : St w0 w ([] :: G) ↔ St w0 w G := by
  constructor <;> exact fun h => h.perm (by simp)
theorem ent (h : St w0 w G) {k i : Nat} {e : Ent} (he : Has G k i e) : e.ok w w0.heap.size := by
  obtain ⟨A, h1, _⟩ := updG_perm [] he
  exact h.fl.ok e (h1.mem_iff.2 (List.mem_cons_self ..))
theorem change (h : St w0 w G) {k i : Nat} {e : Ent} {es : List Ent} (he : Has G k i e) (hu : Upd w w' (fun j => e.blk = some j)) (hok : ∀ e' ∈ es, e'.ok w' w0.heap.size) (hap : es.Pairwise Ent.Ap)
    (hb : ∀ e' ∈ es, ∀ j, e'.blk = some j → e.blk = some j ∨ w.heap.size ≤ j) : St w0 w' (updG G k i es) := by
  obtain ⟨A, h1, h2⟩ := updG_perm es he
  exact ⟨((h.fl.perm h1).change hu hok hap hb).perm h2.symm⟩
theorem change1 (h : St w0 w G) {k i : Nat} {e e' : Ent} (he : Has G k i e) (hu : Upd w w' (fun j => e.blk = some j)) (hok : e'.ok w' w0.heap.size)
    (hb : ∀ j, e'.blk = some j → e.blk = some j ∨ w.heap.size ≤ j) : St w0 w' (updG G k i [e']) :=
  h.change he hu (fun x hx => by simp at hx; subst hx; exact hok) (by simp) (fun x hx => by simp at hx; subst hx; exact hb)
/-- A new piece. -/
theorem new (h : St w0 w G) {e : Ent} (hu : Upd w w' nobody) (hok : e.ok w' w0.heap.size) (hb : ∀ j, e.blk = some j → w.heap.size ≤ j) : St w0 w' ([e] :: G) := by
  refine ⟨?_⟩
  rw [List.flatten_cons]
  have h1 := h.fl.keep hu
  refine ⟨h1.upd, fun x hx => ?_, List.pairwise_append.2 ⟨by simp, h1.ap, fun a ha b hb' k hk hbk => ?_⟩⟩
  · rcases List.mem_append.1 hx with hx | hx
    · simp at hx; subst hx; exact hok
    · exact h1.ok x hx
  · simp at ha; subst ha
    have := hb k hk
    have := ((h.fl.ok b hb').lt hbk).2
    omega
theorem nilrow (h : St w0 w G) (E : TypeId) (sz : Nat) : St w0 w ([.row E sz ⟨none, 0, 0⟩ []] :: G) :=
  h.new (Upd.refl _ _) ⟨Ow.nil _ _ _ _, fun v hv => by simp [Ent.vals] at hv⟩ fun j hj => by simp [Ent.blk, Sl.blk] at hj

section reads
theorem blk (h : St w0 w G) {k i : Nat} {b : Nat} {t : TypeId} {cs : List Value} (he : Has G k i (.cel b t cs)) : Blk w b t cs := (h.ent he).1.2
theorem ow (h : St w0 w G) {k i : Nat} {E : TypeId} {sz : Nat} {s : Sl} {vs : List Value} (he : Has G k i (.row E sz s vs)) : Ow w w0.heap.size E sz s vs := (h.ent he).1
theorem rd (h : St w0 w G) {k i : Nat} {E : TypeId} {sz : Nat} {s : Sl} {vs : List Value} (he : Has G k i (.row E sz s vs)) : Rd w s sz vs := (h.ow he).rd
theorem rdo (h : St w0 w G) {k i : Nat} {sz : Nat} {s : Sl} {vs : List Value} (he : Has G k i (.ro s sz vs)) : Rd w s sz vs := (h.ent he).1.2
theorem one1 (h : St w0 w G) {k i : Nat} {e : Ent} (he : Has G k i e) : ∀ v ∈ e.vals, v.oneCell' = true := (h.ent he).2
/-- What was there at first reads so still. -/
theorem old (h : St w0 w G) {s : Sl} {sz : Nat} {vs : List Value} (hr : Rd w0 s sz vs) : Rd w s sz vs := hr.upd h.upd fun _ _ h => h
end reads
end St

/-! ### types -/
class Sc (P : Program) (t : TypeId) : Prop where
  h : scB P t = true
class Ag (P : Program) (t : TypeId) (n : outParam Nat) : Prop where
  h : aggB P t n = true
class Et (P : Program) (t : TypeId) (e : outParam TypeId) (sz by_ : outParam Nat) : Prop where
  h : ET P t e sz by_
  pos : 0 < sz

section
variable {P : Program} {w0 w w' : World} {G : Grps}

/-! ### blocks -/
theorem St.run_loadB (h : St w0 w G) {k i : Nat} {b : Nat} {t : TypeId} {cs : List Value} (he : Has G k i (.cel b t cs)) {t' : TypeId} [Sc P t'] {p : Addr} {j : Nat} (hp : p = ⟨b, j, none⟩) {v : Value} (hv : nthO cs j = some v) :
    (Instr.loadAt t' (.pointer (some p))).run P w = .ok v w := by
  subst hp
  exact run_load Sc.h (by rw [(h.blk he).cell, ← nthO_get]; exact hv)
theorem St.loadB (h : St w0 w G) (k i : Nat) {b : Nat} {t : TypeId} {cs : List Value} (he : Has G k i (.cel b t cs)) {t' : TypeId} [Sc P t'] {p : Addr} {j : Nat} (hp : p = ⟨b, j, none⟩) {kd : Kd} {x : kd.T} (hv : nthO cs j = some (kd.val x)) {K : kd.T → World → Prop} (hk : K x w) :
    RunN P kd (V (Instr.loadAt t' (.pointer (some p)))) w K := RunN.of (h.run_loadB he hp hv) hk
theorem St.readB (h : St w0 w G) (k i : Nat) {b : Nat} {t : TypeId} {cs : List Value} (he : Has G k i (.cel b t cs)) {t' : TypeId} [Sc P t'] {p : Addr} {j : Nat} (hp : p = ⟨b, j, none⟩) {kd : Kd} {x : kd.T} (hv : nthO cs j = some (kd.val x)) {K : kd.T → Prop} (hk : K x) :
    ReadN P kd (V (Instr.loadAt t' (.pointer (some p)))) w K := ReadN.of (h.run_loadB he hp hv) hk
theorem St.stillB (h : St w0 w G) (k i : Nat) {b : Nat} {t : TypeId} {cs : List Value} (he : Has G k i (.cel b t cs)) {t' : TypeId} [Sc P t'] {p : Addr} {j : Nat} (hp : p = ⟨b, j, none⟩) {v : Value} (hv : nthO cs j = some v) :
    StillV P (V (Instr.loadAt t' (.pointer (some p)))) v w := StillV.of (h.run_loadB he hp hv)
/-- A part of a block as a struct. -/
theorem St.run_loadA (h : St w0 w G) {k i : Nat} {b : Nat} {t : TypeId} {cs : List Value} (he : Has G k i (.cel b t cs)) {t' : TypeId} {n : Nat} [Ag P t' n] {p : Addr} {j : Nat} (hp : p = ⟨b, j, none⟩) {vs : List Value} (hl : vs.length = n) (hv : (cs.drop j).take n = vs) :
    (Instr.loadAt t' (.pointer (some p))).run P w = .ok (.agg ⟨vs⟩) w := by
  subst hp
  refine run_loadAgg Ag.h hl fun m v hm => ?_
  rw [(h.blk he).cell]
  rw [← hv, List.getElem?_take] at hm
  split at hm
  · rwa [List.getElem?_drop] at hm
  · cases hm
theorem St.loadA (h : St w0 w G) (k i : Nat) {b : Nat} {t : TypeId} {cs : List Value} (he : Has G k i (.cel b t cs)) {t' : TypeId} {n : Nat} [Ag P t' n] {p : Addr} {j : Nat} (hp : p = ⟨b, j, none⟩) {kd : Kd} (x : kd.T) {vs : List Value} (hx : kd.val x = .agg ⟨vs⟩ := by rfl) (hl : vs.length = n := by rfl) (hv : (cs.drop j).take n = vs := by rfl) {K : kd.T → World → Prop} (hk : K x w) :
    RunN P kd (V (Instr.loadAt t' (.pointer (some p)))) w K := RunN.of (by rw [hx]; exact h.run_loadA he hp hl hv) hk
theorem St.readA (h : St w0 w G) (k i : Nat) {b : Nat} {t : TypeId} {cs : List Value} (he : Has G k i (.cel b t cs)) {t' : TypeId} {n : Nat} [Ag P t' n] {p : Addr} {j : Nat} (hp : p = ⟨b, j, none⟩) {kd : Kd} (x : kd.T) {vs : List Value} (hx : kd.val x = .agg ⟨vs⟩ := by rfl) (hl : vs.length = n := by rfl) (hv : (cs.drop j).take n = vs := by rfl) {K : kd.T → Prop} (hk : K x) :
    ReadN P kd (V (Instr.loadAt t' (.pointer (some p)))) w K := ReadN.of (by rw [hx]; exact h.run_loadA he hp hl hv) hk
theorem St.stillA (h : St w0 w G) (k i : Nat) {b : Nat} {t : TypeId} {cs : List Value} (he : Has G k i (.cel b t cs)) {t' : TypeId} {n : Nat} [Ag P t' n] {p : Addr} {j : Nat} (hp : p = ⟨b, j, none⟩) {vs : List Value} (hl : vs.length = n := by rfl) (hv : (cs.drop j).take n = vs := by rfl) :
    StillV P (V (Instr.loadAt t' (.pointer (some p)))) (.agg ⟨vs⟩) w := StillV.of (h.run_loadA he hp hl hv)
theorem St.storB (h : St w0 w G) (k i : Nat) {b : Nat} {t : TypeId} {cs : List Value} (he : Has G k i (.cel b t cs)) {t' : TypeId} [Sc P t'] {p : Addr} {j : Nat} (hp : p = ⟨b, j, none⟩) (hj : Nat.blt j cs.length = true) {v : Value} (hv : v.oneCell' = true) {K : World → Prop}
    (hk : ∀ w', St w0 w' (updG G k i [.cel b t (setO cs j v)]) → K w') : RunU P (U (Instr.storeAt t' (.pointer (some p)) v)) w K := by
  subst hp
  have hj' : j < cs.length := Nat.blt_eq ▸ hj
  refine RunU.storB Sc.h (h.blk he) hj' hv fun w' hb hu => hk w' (h.change1 he (hu.mono fun j _ hj => by subst hj; rfl) ⟨⟨(h.ent he).1.1, by rw [setO_set]; exact hb⟩, fun u hu => ?_⟩ fun j hj => .inl hj)
  simp only [Ent.vals, setO_set] at hu
  rcases List.mem_or_eq_of_mem_set hu with hu | rfl
  · exact h.one1 he u hu
  · exact hv
/-- A struct in the midst of a block. -/
theorem St.storA (h : St w0 w G) (k i : Nat) {b : Nat} {t : TypeId} {cs : List Value} (he : Has G k i (.cel b t cs)) {t' : TypeId} {n : Nat} [Ag P t' n] {p : Addr} {j : Nat} (hp : p = ⟨b, j, none⟩) {ds : List Value} (hl : ds.length = n := by rfl) (hj : Nat.ble (j + n) cs.length = true := by rfl) (h1 : ds.all Value.oneCell' = true := by rfl) {K : World → Prop}
    (hk : ∀ w', St w0 w' (updG G k i [.cel b t (cs.take j ++ ds ++ cs.drop (j + n))]) → K w') : RunU P (U (Instr.storeAt t' (.pointer (some p)) (.agg ⟨ds⟩))) w K := by
  subst hp
  have hj' : j + n ≤ cs.length := Nat.le_of_ble_eq_true hj
  have h1' : ∀ v ∈ ds, v.oneCell' = true := List.all_eq_true.1 h1
  have hst := Blk.store (P := P) (h.blk he) (o := j) (news := ds) (by omega) h1'
  refine RunU.of (run_storAgg Ag.h hl hst) (hk _ (h.change1 he (Upd.setRow _ _ _ rfl) ⟨⟨(h.ent he).1.1, by rw [← hl]; exact (h.blk he).row _⟩, fun u hu => ?_⟩ fun j hj => .inl hj))
  simp only [Ent.vals] at hu
  rcases List.mem_append.1 hu with hu | hu
  · rcases List.mem_append.1 hu with hu | hu
    · exact h.one1 he u (List.mem_of_mem_take hu)
    · exact h1' u hu
  · exact h.one1 he u (List.mem_of_mem_drop hu)
/-- A new variable. -/
theorem St.newB (h : St w0 w G) {s : Sem Value} {cs : List Value} {t : TypeId} (hr : s.run P w = .ok (.pointer (some ⟨w.heap.size, 0, none⟩)) (w.alloc (.cells ⟨cs⟩ t))) (h1 : cs.all Value.oneCell' = true) {K : Addr → World → Prop}
    (hk : ∀ b w', St w0 w' ([.cel b t cs] :: G) → K ⟨b, 0, none⟩ w') : RunN P .addr (V s) w K :=
  RunN.newB hr fun w' hb hu _ => hk _ w' (h.new hu ⟨⟨h.upd.size, hb⟩, List.all_eq_true.1 h1⟩ fun j hj => by simp [Ent.blk] at hj; omega)
theorem run_box {t : TypeId} {v : Value} {l : List Value} (hv : v.cells = ⟨l⟩) : (Instr.box t v).run P w = .ok (.pointer (some ⟨w.heap.size, 0, none⟩)) (w.alloc (.cells ⟨l⟩ t)) := by
  simp [Instr.box, newVar, hv]
  rfl
/-- A new row of literal values. -/
theorem St.newS (h : St w0 w G) {s : Sem Value} {cs : List Value} {t : TypeId} {n : Nat} (sz : Nat) (hr : s.run P w = .ok (.slice (some ⟨w.heap.size, 0, none⟩) n n) (w.alloc (.cells ⟨cs⟩ t))) (hn : Nat.ble n maxLen = true) (hl : cs.length = n * sz) (h1 : cs.all Value.oneCell' = true) {K : Sl → World → Prop}
    (hk : ∀ (s : Sl) w', s.len = n → s.cap = n → s.a ≠ none → St w0 w' ([.row t sz s cs] :: G) → K s w') : RunN P .sl (V s) w K :=
  RunN.newS hr h.upd.size (Nat.le_of_ble_eq_true hn) hl fun w' ho hu _ => hk _ w' rfl rfl (by simp) (h.new hu ⟨ho, List.all_eq_true.1 h1⟩ fun j hj => by simp [Ent.blk, Sl.blk] at hj; omega)

/-! ### rows -/
theorem Rd.addr {s : Sl} {sz : Nat} {vs : List Value} (h : Rd w s sz vs) (hs : 0 < sz) (hl : 0 < s.len) : ∃ b o, s.a = some ⟨b, o, none⟩ := by
  rcases h.2.1 with h0 | ⟨b, o, ha, _⟩
  · have := h.1; rw [h0] at this
    simp only [List.length_nil] at this
    have := Nat.mul_pos hl hs; omega
  · exact ⟨b, o, ha⟩
/-- The place of an element. -/
theorem Rd.run_idx {t e : TypeId} {sz by_ : Nat} [et : Et P t e sz by_] {s : Sl} {vs : List Value} (h : Rd w s sz vs) {kk : IntKind} {i : Int} {n : Nat} (hi : i = (n : Int)) (hn : n < s.len) :
    ∃ b o, s.a = some ⟨b, o, none⟩ ∧ (Instr.indexAt t (.slice s.a s.len s.cap) (.int kk i)).run P w = .ok (.pointer (some ⟨b, o + n * sz, none⟩)) w := by
  obtain ⟨b, o, ha⟩ := h.addr et.pos (by omega)
  have := Go.Fw.run_idx (P := P) (w := w) et.h ha (k := kk) (i := i) (by omega) (by omega)
  rw [hi, Int.toNat_natCast] at this
  rw [hi]; exact ⟨b, o, ha, this⟩
theorem Rd.idxK {t e : TypeId} {sz by_ : Nat} [et : Et P t e sz by_] {s : Sl} {vs : List Value} (h : Rd w s sz vs) {kk : IntKind} {i : Int} (n : Nat) (hi : i = (n : Int)) (hn : n < s.len) {K : Addr → World → Prop}
    (hk : ∀ b o, s.a = some ⟨b, o, none⟩ → K ⟨b, o + n * sz, none⟩ w) : RunN P .addr (V (Instr.indexAt t (.slice s.a s.len s.cap) (.int kk i))) w K := by
  obtain ⟨b, o, ha, hr⟩ := h.run_idx (P := P) (t := t) (kk := kk) hi hn
  exact RunN.of (kd := .addr) hr (hk b o ha)
theorem Rd.idxR {t e : TypeId} {sz by_ : Nat} [et : Et P t e sz by_] {s : Sl} {vs : List Value} (h : Rd w s sz vs) {kk : IntKind} {i : Int} (n : Nat) (hi : i = (n : Int)) (hn : n < s.len) {K : Addr → Prop}
    (hk : ∀ b o, s.a = some ⟨b, o, none⟩ → K ⟨b, o + n * sz, none⟩) : ReadN P .addr (V (Instr.indexAt t (.slice s.a s.len s.cap) (.int kk i))) w K := by
  obtain ⟨b, o, ha, hr⟩ := h.run_idx (P := P) (t := t) (kk := kk) hi hn
  exact ReadN.of (kd := .addr) hr (hk b o ha)
/-- A cell of a row. -/
theorem Rd.at {s : Sl} {sz : Nat} {vs : List Value} (h : Rd w s sz vs) {b o : Nat} (ha : s.a = some ⟨b, o, none⟩) {j : Nat} {v : Value} (hv : vs[j]? = some v) : w.cell? ⟨b, o + j, none⟩ = some v := by
  rcases h.2.1 with h0 | ⟨b', o', ha', hc⟩
  · subst h0; simp at hv
  · rw [ha] at ha'; cases ha'; exact hc j v hv
theorem Rd.run_el {t' : TypeId} [Sc P t'] {s : Sl} {sz : Nat} {vs : List Value} (h : Rd w s sz vs) {b o : Nat} (ha : s.a = some ⟨b, o, none⟩) {p : Addr} (j : Nat) (hp : p = ⟨b, o + j, none⟩) {v : Value} (hv : vs[j]? = some v) :
    (Instr.loadAt t' (.pointer (some p))).run P w = .ok v w := by
  subst hp; exact run_load Sc.h (h.at ha hv)
theorem Rd.el {t' : TypeId} [Sc P t'] {s : Sl} {sz : Nat} {vs : List Value} (h : Rd w s sz vs) {b o : Nat} (ha : s.a = some ⟨b, o, none⟩) {p : Addr} (j : Nat) (hp : p = ⟨b, o + j, none⟩) {kd : Kd} {x : kd.T} (hv : vs[j]? = some (kd.val x)) {K : kd.T → World → Prop} (hk : K x w) :
    RunN P kd (V (Instr.loadAt t' (.pointer (some p)))) w K := RunN.of (h.run_el ha j hp hv) hk
theorem Rd.elR {t' : TypeId} [Sc P t'] {s : Sl} {sz : Nat} {vs : List Value} (h : Rd w s sz vs) {b o : Nat} (ha : s.a = some ⟨b, o, none⟩) {p : Addr} (j : Nat) (hp : p = ⟨b, o + j, none⟩) {kd : Kd} {x : kd.T} (hv : vs[j]? = some (kd.val x)) {K : kd.T → Prop} (hk : K x) :
    ReadN P kd (V (Instr.loadAt t' (.pointer (some p)))) w K := ReadN.of (h.run_el ha j hp hv) hk
/-- A struct of a row. -/
theorem Rd.run_elA {t' : TypeId} {n : Nat} [Ag P t' n] {s : Sl} {sz : Nat} {vs : List Value} (h : Rd w s sz vs) {b o : Nat} (ha : s.a = some ⟨b, o, none⟩) {p : Addr} (j : Nat) (hp : p = ⟨b, o + j, none⟩) {ds : List Value} (hl : ds.length = n) (hv : (vs.drop j).take n = ds) :
    (Instr.loadAt t' (.pointer (some p))).run P w = .ok (.agg ⟨ds⟩) w := by
  subst hp
  refine run_loadAgg Ag.h hl fun m v hm => ?_
  rw [← hv, List.getElem?_take] at hm
  split at hm
  · rw [List.getElem?_drop] at hm
    rw [Nat.add_assoc]; exact h.at ha hm
  · cases hm
theorem Rd.elA {t' : TypeId} {n : Nat} [Ag P t' n] {s : Sl} {sz : Nat} {vs : List Value} (h : Rd w s sz vs) {b o : Nat} (ha : s.a = some ⟨b, o, none⟩) {p : Addr} (j : Nat) (hp : p = ⟨b, o + j, none⟩) {kd : Kd} (x : kd.T) {ds : List Value} (hv : (vs.drop j).take n = ds) {K : kd.T → World → Prop} (hk : K x w) (hx : kd.val x = .agg ⟨ds⟩ := by rfl) (hl : ds.length = n := by rfl) :
    RunN P kd (V (Instr.loadAt t' (.pointer (some p)))) w K := RunN.of (by rw [hx]; exact h.run_elA ha j hp hl hv) hk
theorem Rd.elAR {t' : TypeId} {n : Nat} [Ag P t' n] {s : Sl} {sz : Nat} {vs : List Value} (h : Rd w s sz vs) {b o : Nat} (ha : s.a = some ⟨b, o, none⟩) {p : Addr} (j : Nat) (hp : p = ⟨b, o + j, none⟩) {kd : Kd} (x : kd.T) {ds : List Value} (hv : (vs.drop j).take n = ds) {K : kd.T → Prop} (hk : K x) (hx : kd.val x = .agg ⟨ds⟩ := by rfl) (hl : ds.length = n := by rfl) :
    ReadN P kd (V (Instr.loadAt t' (.pointer (some p)))) w K := ReadN.of (by rw [hx]; exact h.run_elA ha j hp hl hv) hk
/-- A cell of an owned row is written. -/
theorem St.storR (h : St w0 w G) (k i : Nat) {E : TypeId} {sz : Nat} {s : Sl} {vs : List Value} (he : Has G k i (.row E sz s vs)) {b o : Nat} (ha : s.a = some ⟨b, o, none⟩) {t' : TypeId} [Sc P t'] {p : Addr} (j : Nat) (hp : p = ⟨b, o + j, none⟩) (hj : j < vs.length) {v : Value} (hv : v.oneCell' = true) {K : World → Prop}
    (hk : ∀ w', St w0 w' (updG G k i [.row E sz s (vs.set j v)]) → K w') : RunU P (U (Instr.storeAt t' (.pointer (some p)) v)) w K := by
  subst hp
  obtain ⟨g, o', ha', hb, hf, hc, hset⟩ := (h.ow he).place hj
  rw [ha] at ha'; cases ha'
  refine RunU.stor Sc.h hv hc hf (hk _ (h.change1 he (Upd.setCell _ _ _ hb) ⟨hset v, fun u hu => ?_⟩ fun j hj => .inl hj))
  rcases List.mem_or_eq_of_mem_set hu with hu | rfl
  · exact h.one1 he u hu
  · exact hv
/-- A struct of an owned row is written. -/
theorem St.storRA (h : St w0 w G) (k i : Nat) {E : TypeId} {sz : Nat} {s : Sl} {vs : List Value} (he : Has G k i (.row E sz s vs)) {b o : Nat} (ha : s.a = some ⟨b, o, none⟩) {t' : TypeId} {n : Nat} [Ag P t' n] {p : Addr} (j : Nat) (hp : p = ⟨b, o + j, none⟩) {ds : List Value} (hj : j + n ≤ vs.length) (hl : ds.length = n := by rfl) (hn : 0 < n := by decide) (h1 : ds.all Value.oneCell' = true := by rfl) {K : World → Prop}
    (hk : ∀ w', St w0 w' (updG G k i [.row E sz s (vs.take j ++ ds ++ vs.drop (j + n))]) → K w') : RunU P (U (Instr.storeAt t' (.pointer (some p)) (.agg ⟨ds⟩))) w K := by
  subst hp
  have h1' : ∀ v ∈ ds, v.oneCell' = true := List.all_eq_true.1 h1
  obtain ⟨g, o', ha', hb, w', hst, how, hup⟩ := (h.ow he).write (P := P) (i := j) (news := ds) (by omega) (by intro e; subst e; simp at hl; omega) h1'
  rw [ha] at ha'; cases ha'
  refine RunU.of (run_storAgg Ag.h hl hst) (hk _ (h.change1 he (hup.mono fun j _ hj => by subst hj; exact hb) ⟨by rw [← hl]; exact how, fun u hu => ?_⟩ fun j hj => .inl hj))
  simp only [Ent.vals] at hu
  rcases List.mem_append.1 hu with hu | hu
  · rcases List.mem_append.1 hu with hu | hu
    · exact h.one1 he u (List.mem_of_mem_take hu)
    · exact h1' u hu
  · exact h.one1 he u (List.mem_of_mem_drop hu)
/-- Append onto an owned row. -/
theorem St.app (h : St w0 w G) (k i : Nat) {e : TypeId} {sz by_ : Nat} {s : Sl} {xs : List Value} (he : Has G k i (.row e sz s xs)) {t tx ty : TypeId} [et : Et P t e sz by_] {ex : TypeId} [etx : Et P tx ex sz by_] {p : Sl} {news : List Value} (hr : Rd w p sz news) (h1 : ∀ v ∈ news, v.oneCell' = true)
    (h63 : s.len + p.len ≤ maxLen) (hfit : (s.len + p.len) * by_ ≤ 140737488355328) {K : Sl → World → Prop}
    (hk : ∀ (s' : Sl) w', s'.len = s.len + p.len → St w0 w' (updG G k i [.row e sz s' (xs ++ news)]) → K s' w') :
    RunN P .sl (V (Builtin.append_ #[t, tx] ty #[.slice s.a s.len s.cap, .slice p.a p.len p.cap])) w K := by
  refine RunN.appO et.h ⟨ex, etx.h⟩ et.pos (h.ow he) hr h1 h.upd.size h63 hfit fun s' w' hl ho hu hb => hk s' w' hl (h.change1 he hu ⟨ho, fun v hv => ?_⟩ fun j hj => ?_)
  · simp only [Ent.vals] at hv
    rcases List.mem_append.1 hv with hv | hv
    · exact h.one1 he v hv
    · exact h1 v hv
  · simp only [Ent.blk] at hj ⊢
    rcases hb with hb | ⟨g, hg, h2, h3⟩
    · rw [hb] at hj; exact .inl hj
    · rw [hg] at hj; cases hj; exact .inr h2
/-- A copy: append onto nil. -/
theorem St.appNil (h : St w0 w G) {e : TypeId} {sz by_ : Nat} {t tx ty : TypeId} [et : Et P t e sz by_] {ex : TypeId} [etx : Et P tx ex sz by_] {p : Sl} {news : List Value} (hr : Rd w p sz news) (h1 : ∀ v ∈ news, v.oneCell' = true)
    (h63 : p.len ≤ maxLen) (hfit : p.len * by_ ≤ 140737488355328) {K : Sl → World → Prop}
    (hk : ∀ (s' : Sl) w', s'.len = p.len → St w0 w' ([.row e sz s' news] :: G) → K s' w') :
    RunN P .sl (V (Builtin.append_ #[t, tx] ty #[.slice none 0 0, .slice p.a p.len p.cap])) w K :=
  (h.nilrow e sz).app 0 0 ⟨_, rfl, rfl⟩ hr h1 (by dsimp only; omega) (by dsimp only; rw [Nat.zero_add]; exact hfit) fun s' w' hl h => hk s' w' (by dsimp only at hl; omega) h
theorem St.make0 (h : St w0 w G) {t e : TypeId} {sz by_ : Nat} [et : Et P t e sz by_] {kc : IntKind} {c : Int} (h0 : 0 ≤ c) (hb : (by_ : Int) * c ≤ 281474976710656) (h63 : c ≤ 9223372036854775807) {K : Sl → World → Prop}
    (hk : ∀ (s' : Sl) w', s'.len = 0 → s'.cap = c.toNat → s'.a ≠ none → St w0 w' ([.row e sz s' []] :: G) → K s' w') :
    RunN P .sl (V (Instr.makeSlice t (.int .i64 0) (.int kc c))) w K :=
  RunN.make0 et.h h0 hb h63 h.upd.size fun s' w' hl hc ho hu hbk _ => hk s' w' hl hc (fun e => by simp [Sl.blk, e] at hbk) (h.new hu ⟨ho, fun v hv => by simp [Ent.vals] at hv⟩ fun j hj => by simp only [Ent.blk] at hj; rw [hbk] at hj; cases hj; exact Nat.le_refl _)
end
end Go.Fw
namespace Go.Fw
open Go Go.RowKit
class NewC (P : Program) (t : TypeId) (cs : outParam (List Value)) : Prop where
  run : ∀ w : World, (Instr.alloc t true (.tuple #[])).run P w = .ok (.pointer (some ⟨w.heap.size, 0, none⟩)) (w.alloc (.cells ⟨cs⟩ t))
theorem JoinX.mk {α : Type} {K : α → World → Prop} {F : (α → World → Prop) → Prop} (Q : α → World → Prop) (hK : ∀ x w, Q x w → K x w) (hF : ∀ k : α → World → Prop, (∀ x w, Q x w → k x w) → F k) : JoinX K F := hF K hK
theorem LoopX.mk {α : Type} {body : α → World → (α → World → Prop) → Prop} {s : α} {w : World} (I : α → World → Prop) (μ : α → Nat) (h0 : I s w) (h : ∀ s w, I s w → ∀ k : α → World → Prop, (∀ s' w', I s' w' → μ s' < μ s → k s' w') → body s w k) : LoopX body s w :=
  ⟨I, fun s _ => μ s, h0, fun s w hI => h s w hI _ fun s' w' h1 h2 => ⟨h1, h2⟩⟩
section
variable {P : Program} {w0 w w' : World} {G : Grps}
theorem St.ofOw {E : TypeId} {sz : Nat} {s : Sl} {vs : List Value} (hu : Upd w w' nobody) (ho : Ow w' w.heap.size E sz s vs) (h1 : ∀ v ∈ vs, v.oneCell' = true) : St w w' [[.row E sz s vs]] :=
  (St.init w).new hu ⟨ho, h1⟩ fun j hj => (ho.lt hj).1
/-- The first group becomes the end of the second. -/
theorem St.into {e : Ent} {g : List Ent} (h : St w0 w ([e] :: g :: G)) : St w0 w ((g ++ [e]) :: G) :=
  h.perm (by simp only [List.flatten_cons, List.append_assoc, List.cons_append, List.nil_append]; exact List.perm_middle.symm)
/-- One piece on its own. -/
theorem St.pull (h : St w0 w G) {k i : Nat} {e : Ent} (he : Has G k i e) : St w0 w ([e] :: updG G k i []) := by
  obtain ⟨A, h1, h2⟩ := updG_perm [] he
  refine h.perm (h1.trans ?_)
  rw [List.flatten_cons]
  exact (h2.symm.cons e)
theorem St.rest (h : St w0 w G) {k i : Nat} {e : Ent} (he : Has G k i e) : St w0 w (updG G k i []) := (h.pull he).drop 0
end
end Go.Fw

/- Parts of slices, copies, what is made, what is compared: in the form of groups. -/
set_option linter.unusedVariables false
set_option linter.unusedSimpArgs false
namespace Go.Fw
open Go Go.RowKit

theorem wr {x : Int} (h : -9223372036854775808 ≤ x ∧ x ≤ 9223372036854775807) : IntKind.i64.wrap x = x := IntWalk.i64_in x h

/-- s[lo:hi] -/
def subS (s : Sl) (lo hi sz : Nat) : Sl := ⟨if s.cap = lo then s.a else s.a.map (·.add (lo * sz)), hi - lo, s.cap - lo⟩
theorem subS_addr {s : Sl} {lo hi sz b o : Nat} (ha : s.a = some ⟨b, o, none⟩) (h : lo < s.cap) : (subS s lo hi sz).a = some ⟨b, o + lo * sz, none⟩ := by
  simp only [subS, if_neg (show ¬ s.cap = lo by omega), ha, Option.map_some, add_lit']
theorem subS_zero (s : Sl) (hi sz : Nat) : subS s 0 hi sz = ⟨s.a, hi, s.cap⟩ := by
  simp only [subS, Nat.zero_mul, Nat.sub_zero]
  congr 1
  split
  · rfl
  · cases s.a <;> simp [Addr.add]
theorem subS_blk (s : Sl) (lo hi sz : Nat) : (subS s lo hi sz).blk = s.blk := by
  simp only [subS, Sl.blk]
  split
  · rfl
  · cases s.a with
    | none => rfl
    | some a => simp [Addr.add]; split <;> rfl
theorem Rd.subS {w : World} {s : Sl} {sz : Nat} {vs : List Value} (h : Rd w s sz vs) {lo hi : Nat} (h1 : lo ≤ hi) (h2 : hi ≤ s.len) : Rd w (subS s lo hi sz) sz ((vs.drop (lo * sz)).take ((hi - lo) * sz)) :=
  h.sub h1 h2 (Nat.le_trans h2 h.2.2)
theorem Rd.pre {w : World} {s : Sl} {sz : Nat} {vs : List Value} (h : Rd w s sz vs) {hi : Nat} (h2 : hi ≤ s.len) : Rd w (Go.Fw.subS s 0 hi sz) sz (vs.take (hi * sz)) := by
  have := h.subS (Nat.zero_le hi) h2; simpa using this
theorem Rd.suf {w : World} {s : Sl} {sz : Nat} {vs : List Value} (h : Rd w s sz vs) {lo : Nat} (h2 : lo ≤ s.len) : Rd w (Go.Fw.subS s lo s.len sz) sz (vs.drop (lo * sz)) := by
  have := h.subS h2 (Nat.le_refl _)
  rwa [List.take_of_length_le (by rw [List.length_drop, h.1, Nat.sub_mul]; omega)] at this
theorem Ow.suf {w : World} {base : Nat} {E : TypeId} {sz : Nat} {s : Sl} {vs : List Value} (h : Ow w base E sz s vs) {lo : Nat} (h2 : lo ≤ s.len) : Ow w base E sz (subS s lo s.len sz) (vs.drop (lo * sz)) := by
  have hl := h.1
  refine ⟨by simp only [subS, List.length_drop, hl, Nat.sub_mul], ?_⟩
  rcases h.2 with rfl | ⟨g, o, cs, ha, hb, hg, h3, h4, h5, h6⟩
  · left
    have : lo = 0 := by simpa using h2
    subst this; rfl
  · right
    have e1 : s.cap * sz = (s.cap - lo) * sz + lo * sz := by rw [← Nat.add_mul]; congr 1; omega
    have e2 : s.len * sz = (s.len - lo) * sz + lo * sz := by rw [← Nat.add_mul]; congr 1; omega
    by_cases hc : s.cap = lo
    · refine ⟨g, o, cs, by simp [subS, hc, ha], hb, hg, by simp only [subS]; omega, by simp only [subS]; omega, by simp only [subS]; rw [hc, Nat.sub_self, Nat.zero_mul]; omega, ?_⟩
      have : s.len - lo = 0 := by omega
      simp only [subS, this, Nat.zero_mul, List.take_zero]
      rw [List.drop_of_length_le]
      rw [hl]; exact Nat.mul_le_mul_right _ (by omega)
    · refine ⟨g, o + lo * sz, cs, subS_addr ha (by omega), hb, hg, by simp only [subS]; omega, by simp only [subS]; omega, by simp only [subS]; omega, ?_⟩
      simp only [subS]
      rw [← h6, List.drop_take, List.drop_drop]
      congr 1
      omega
theorem Ow.pre {w : World} {base : Nat} {E : TypeId} {sz : Nat} {s : Sl} {vs : List Value} (h : Ow w base E sz s vs) {hi : Nat} (h2 : hi ≤ s.len) : Ow w base E sz (subS s 0 hi sz) (vs.take (hi * sz)) := by
  rw [subS_zero]; exact h.shorter h2 rfl

section
variable {P : Program} {w0 w w' : World} {G : Grps}
theorem run_subL' {t e : TypeId} {sz by_ : Nat} [et : Et P t e sz by_] {s : Sl} {k : IntKind} {l : Int} {lo : Nat} (hl : l = (lo : Int)) (h2 : lo ≤ s.len) :
    (Instr.sliceAt t (.slice s.a s.len s.cap) (some (.int k l)) none none).run P w = .ok (.slice (subS s lo s.len sz).a (subS s lo s.len sz).len (subS s lo s.len sz).cap) w := by
  subst hl
  have := run_subL (P := P) (w := w) et.h (s := s) (k := k) (l := (lo : Int)) (by omega) (by omega)
  rw [Int.toNat_natCast] at this; exact this
theorem run_subH' {t e : TypeId} {sz by_ : Nat} [et : Et P t e sz by_] {s : Sl} {k : IntKind} {h : Int} {hi : Nat} (hl : h = (hi : Int)) (h2 : hi ≤ s.cap) :
    (Instr.sliceAt t (.slice s.a s.len s.cap) none (some (.int k h)) none).run P w = .ok (.slice (subS s 0 hi sz).a (subS s 0 hi sz).len (subS s 0 hi sz).cap) w := by
  subst hl
  have := run_subH (P := P) (w := w) et.h (s := s) (k := k) (h := (hi : Int)) (by omega) (by omega)
  rw [Int.toNat_natCast] at this; exact this
theorem run_subLH' {t e : TypeId} {sz by_ : Nat} [et : Et P t e sz by_] {s : Sl} {k kh : IntKind} {l h : Int} {lo hi : Nat} (hl : l = (lo : Int)) (hh : h = (hi : Int)) (h1 : lo ≤ hi) (h2 : hi ≤ s.cap) :
    (Instr.sliceAt t (.slice s.a s.len s.cap) (some (.int k l)) (some (.int kh h)) none).run P w = .ok (.slice (subS s lo hi sz).a (subS s lo hi sz).len (subS s lo hi sz).cap) w := by
  subst hl; subst hh
  have := run_subLH (P := P) (w := w) et.h (s := s) (kl := k) (kh := kh) (l := (lo : Int)) (h := (hi : Int)) (by omega) (by omega) (by omega)
  rw [Int.toNat_natCast, Int.toNat_natCast] at this; exact this
theorem RunN.sL {t e : TypeId} {sz by_ : Nat} [et : Et P t e sz by_] {s : Sl} {k : IntKind} {l : Int} (lo : Nat) (hl : l = (lo : Int)) (h2 : lo ≤ s.len) {K : Sl → World → Prop} (hk : K (subS s lo s.len sz) w) :
    RunN P .sl (V (Instr.sliceAt t (.slice s.a s.len s.cap) (some (.int k l)) none none)) w K := RunN.of (kd := .sl) (run_subL' hl h2) hk
theorem ReadN.sL {t e : TypeId} {sz by_ : Nat} [et : Et P t e sz by_] {s : Sl} {k : IntKind} {l : Int} (lo : Nat) (hl : l = (lo : Int)) (h2 : lo ≤ s.len) {K : Sl → Prop} (hk : K (subS s lo s.len sz)) :
    ReadN P .sl (V (Instr.sliceAt t (.slice s.a s.len s.cap) (some (.int k l)) none none)) w K := ReadN.of (kd := .sl) (run_subL' hl h2) hk
theorem RunN.sH {t e : TypeId} {sz by_ : Nat} [et : Et P t e sz by_] {s : Sl} {k : IntKind} {h : Int} (hi : Nat) (hl : h = (hi : Int)) (h2 : hi ≤ s.cap) {K : Sl → World → Prop} (hk : K (subS s 0 hi sz) w) :
    RunN P .sl (V (Instr.sliceAt t (.slice s.a s.len s.cap) none (some (.int k h)) none)) w K := RunN.of (kd := .sl) (run_subH' hl h2) hk
theorem ReadN.sH {t e : TypeId} {sz by_ : Nat} [et : Et P t e sz by_] {s : Sl} {k : IntKind} {h : Int} (hi : Nat) (hl : h = (hi : Int)) (h2 : hi ≤ s.cap) {K : Sl → Prop} (hk : K (subS s 0 hi sz)) :
    ReadN P .sl (V (Instr.sliceAt t (.slice s.a s.len s.cap) none (some (.int k h)) none)) w K := ReadN.of (kd := .sl) (run_subH' hl h2) hk
theorem StillV.sH {t e : TypeId} {sz by_ : Nat} [et : Et P t e sz by_] {s : Sl} {k : IntKind} {h : Int} (hi : Nat) (hl : h = (hi : Int)) (h2 : hi ≤ s.cap) :
    StillV P (V (Instr.sliceAt t (.slice s.a s.len s.cap) none (some (.int k h)) none)) (.slice (subS s 0 hi sz).a (subS s 0 hi sz).len (subS s 0 hi sz).cap) w := StillV.of (run_subH' hl h2)
theorem RunN.sLH {t e : TypeId} {sz by_ : Nat} [et : Et P t e sz by_] {s : Sl} {k kh : IntKind} {l h : Int} (lo hi : Nat) (hl : l = (lo : Int)) (hh : h = (hi : Int)) (h1 : lo ≤ hi) (h2 : hi ≤ s.cap) {K : Sl → World → Prop} (hk : K (subS s lo hi sz) w) :
    RunN P .sl (V (Instr.sliceAt t (.slice s.a s.len s.cap) (some (.int k l)) (some (.int kh h)) none)) w K := RunN.of (kd := .sl) (run_subLH' hl hh h1 h2) hk
theorem ReadN.sLH {t e : TypeId} {sz by_ : Nat} [et : Et P t e sz by_] {s : Sl} {k kh : IntKind} {l h : Int} (lo hi : Nat) (hl : l = (lo : Int)) (hh : h = (hi : Int)) (h1 : lo ≤ hi) (h2 : hi ≤ s.cap) {K : Sl → Prop} (hk : K (subS s lo hi sz)) :
    ReadN P .sl (V (Instr.sliceAt t (.slice s.a s.len s.cap) (some (.int k l)) (some (.int kh h)) none)) w K := ReadN.of (kd := .sl) (run_subLH' hl hh h1 h2) hk

/-- Copy into a part of an owned row. -/
theorem St.copy (h : St w0 w G) (k i : Nat) {e : TypeId} {sz by_ : Nat} {s : Sl} {vs : List Value} (he : Has G k i (.row e sz s vs)) {t ts ty : TypeId} [et : Et P t e sz by_] {e2 : TypeId} {sz2 b2 : Nat} [et2 : Et P ts e2 sz2 b2] {da : Option Addr} {dl dc : Nat} (lo : Nat)
    (hda : ∀ b o, s.a = some ⟨b, o, none⟩ → 0 < dl → da = some ⟨b, o + lo * sz, none⟩) (hdl : lo + dl ≤ s.len) {p : Sl} {ws : List Value} (hr : Rd w p sz ws) (h1 : ∀ v ∈ ws, v.oneCell' = true) {K : Int → World → Prop}
    (hk : ∀ w', St w0 w' (updG G k i [.row e sz s (vs.take (lo * sz) ++ ws.take (Nat.min p.len dl * sz) ++ vs.drop ((lo + Nat.min p.len dl) * sz))]) → K (Nat.min p.len dl : Nat) w') :
    RunN P (.int .i64) (V (Builtin.copy_ #[t, ts] ty #[.slice da dl dc, .slice p.a p.len p.cap])) w K := by
  obtain ⟨w', hr', ho, hu⟩ := run_copyOw (P := P) (ts := ts) (ty := ty) (da := da) (dc := dc) et.h (by simp [et2.h.ht]) et.pos (h.ow he) hda hdl hr h1
  refine RunN.of (kd := .int .i64) hr' (hk w' (h.change1 he hu ⟨ho, fun v hv => ?_⟩ fun j hj => .inl hj))
  simp only [Ent.vals] at hv
  rcases List.mem_append.1 hv with hv | hv
  · rcases List.mem_append.1 hv with hv | hv
    · exact h.one1 he v (List.mem_of_mem_take hv)
    · exact h1 v (List.mem_of_mem_take hv)
  · exact h.one1 he v (List.mem_of_mem_drop hv)
/-- Clear the end of an owned row. -/
theorem St.clear (h : St w0 w G) (k i : Nat) {e : TypeId} {sz by_ : Nat} {s : Sl} {vs : List Value} (he : Has G k i (.row e sz s vs)) {t ty : TypeId} [et : Et P t e sz by_] {a : Option Addr} {n c : Nat} (lo : Nat) {zs : List Value}
    (hz : (do pure (Builtin.zeroCells (← zeroValue e).cells n).toList : Sem (List Value)).run P w = .ok zs w) (hzl : zs.length = n * sz) (hz1 : zs.all Value.oneCell' = true) (hn : 0 < n) (ha : ∀ b o, s.a = some ⟨b, o, none⟩ → a = some ⟨b, o + lo * sz, none⟩) (hfit : lo + n ≤ s.len) {K : Unit → World → Prop}
    (hk : ∀ w', St w0 w' (updG G k i [.row e sz s (vs.take (lo * sz) ++ zs ++ vs.drop ((lo + n) * sz))]) → K () w') :
    RunN P (.tup .nilT) (V (Builtin.clear_ #[t] ty #[.slice a n c])) w K := by
  obtain ⟨w', hr', ho, hu⟩ := run_clearOw (P := P) (ty := ty) (c := c) et.h (h.ow he) hz hzl (List.all_eq_true.1 hz1) (Nat.mul_pos hn et.pos) ha hfit
  refine RunN.of (kd := .tup .nilT) (x := ()) hr' (hk w' (h.change1 he hu ⟨ho, fun v hv => ?_⟩ fun j hj => .inl hj))
  simp only [Ent.vals] at hv
  rcases List.mem_append.1 hv with hv | hv
  · rcases List.mem_append.1 hv with hv | hv
    · exact h.one1 he v (List.mem_of_mem_take hv)
    · exact List.all_eq_true.1 hz1 v hv
  · exact h.one1 he v (List.mem_of_mem_drop hv)
/-- A row seen shorter: its beginning, its end. -/
theorem St.preR (h : St w0 w G) {k i : Nat} {e : TypeId} {sz : Nat} {s : Sl} {vs : List Value} (he : Has G k i (.row e sz s vs)) {hi : Nat} (h2 : hi ≤ s.len) : St w0 w (updG G k i [.row e sz (subS s 0 hi sz) (vs.take (hi * sz))]) :=
  h.change1 he (Upd.refl _ _) ⟨(h.ow he).pre h2, fun v hv => h.one1 he v (List.mem_of_mem_take hv)⟩ fun j hj => .inl (by simpa [Ent.blk, subS_blk] using hj)
theorem St.sufR (h : St w0 w G) {k i : Nat} {e : TypeId} {sz : Nat} {s : Sl} {vs : List Value} (he : Has G k i (.row e sz s vs)) {lo : Nat} (h2 : lo ≤ s.len) : St w0 w (updG G k i [.row e sz (subS s lo s.len sz) (vs.drop (lo * sz))]) :=
  h.change1 he (Upd.refl _ _) ⟨(h.ow he).suf h2, fun v hv => h.one1 he v (List.mem_of_mem_drop hv)⟩ fun j hj => .inl (by simpa [Ent.blk, subS_blk] using hj)

/-- Append, and what becomes of the old one: it is the beginning of the new one, or it is left where it is. -/
theorem St.appKeep (h : St w0 w G) (k i : Nat) {e : TypeId} {sz by_ : Nat} {s : Sl} {xs : List Value} (he : Has G k i (.row e sz s xs)) {t tx ty : TypeId} [et : Et P t e sz by_] {ex : TypeId} [etx : Et P tx ex sz by_] {p : Sl} {news : List Value} (hr : Rd w p sz news) (h1 : ∀ v ∈ news, v.oneCell' = true)
    (h63 : s.len + p.len ≤ maxLen) (hfit : (s.len + p.len) * by_ ≤ 140737488355328) {K : Sl → World → Prop}
    (hk : ∀ (s' : Sl) w', s'.len = s.len + p.len → (s'.a = s.a ∧ s'.cap = s.cap ∧ St w0 w' (updG G k i [.row e sz s' (xs ++ news)]) ∨ St w0 w' (updG G k i [.row e sz s' (xs ++ news), .row e sz s xs])) → K s' w') :
    RunN P .sl (V (Builtin.append_ #[t, tx] ty #[.slice s.a s.len s.cap, .slice p.a p.len p.cap])) w K := by
  obtain ⟨s', w', hr', hl, ho, hu, hb⟩ := run_app (P := P) (ty := ty) et.h et.pos (h.ow he) (Src.ofRd etx.h et.pos hr h1) h.upd.size h63 hfit
  have hone : ∀ v ∈ xs ++ news, v.oneCell' = true := fun v hv => by
    rcases List.mem_append.1 hv with hv | hv
    · exact h.one1 he v hv
    · exact h1 v hv
  refine RunN.of (kd := .sl) (x := s') hr' (hk s' w' hl ?_)
  rcases hb with ⟨ha, hc⟩ | ⟨hu0, g, hg, hg1, hg2⟩
  · exact .inl ⟨ha, hc, h.change1 he hu ⟨ho, hone⟩ fun j hj => .inl (by simpa [Ent.blk, Sl.blk, ha] using hj)⟩
  · refine .inr (h.change he (hu0.none _) (fun e' he' => ?_) ?_ (fun e' he' j hj => ?_))
    · simp at he'
      rcases he' with rfl | rfl
      · exact ⟨ho, hone⟩
      · exact (h.ent he).upd hu0 fun _ _ h => h
    · refine List.pairwise_cons.2 ⟨fun x hx k hk hxk => ?_, by simp⟩
      simp at hx; subst hx
      simp only [Ent.blk] at hk hxk
      rw [hg] at hk; cases hk
      have := ((h.ent he).lt (k := g) hxk).2
      omega
    · simp at he'
      rcases he' with rfl | rfl
      · simp only [Ent.blk] at hj; rw [hg] at hj; cases hj; exact .inr hg1
      · exact .inl hj
end
end Go.Fw
namespace Go.Fw
open Go
section
variable {P : Program} {w : World}
theorem NilP.mk {a : Addr} {F : Addr → Prop} (h : F a) : NilP (some a) F := h
theorem RunN.isLoad {kd : Kd} {t : TypeId} {v : Value} {K : kd.T → World → Prop} (h : RunN P kd (V (Instr.loadAt t v)) w K) : RunN P kd (V (Instr.loadAt t v)) w K := h
theorem ReadN.isLoad {kd : Kd} {t : TypeId} {v : Value} {K : kd.T → Prop} (h : ReadN P kd (V (Instr.loadAt t v)) w K) : ReadN P kd (V (Instr.loadAt t v)) w K := h
theorem StillV.isLoad {t : TypeId} {v u : Value} {A : Prop} (h : StillV P (V (Instr.loadAt t v)) u w ∧ A) : StillV P (V (Instr.loadAt t v)) u w ∧ A := h
theorem RunU.isStor {t : TypeId} {v u : Value} {K : World → Prop} (h : RunU P (U (Instr.storeAt t v u)) w K) : RunU P (U (Instr.storeAt t v u)) w K := h
theorem RunN.isBox {t : TypeId} {v : Value} {K : Addr → World → Prop} (h : RunN P .addr (V (Instr.box t v)) w K) : RunN P .addr (V (Instr.box t v)) w K := h
theorem RunN.isNew {t : TypeId} {b : Bool} {v : Value} {K : Addr → World → Prop} (h : RunN P .addr (V (Instr.alloc t b v)) w K) : RunN P .addr (V (Instr.alloc t b v)) w K := h
end
end Go.Fw
namespace Go.Fw
open Go
theorem run_boxA {P : Program} {w : World} {t : TypeId} {l : List Value} : (Instr.box t (.agg ⟨l⟩)).run P w = .ok (.pointer (some ⟨w.heap.size, 0, none⟩)) (w.alloc (.cells ⟨l⟩ t)) := run_box rfl
end Go.Fw
namespace Go.Fw
open Go
variable {w0 w : World} {F : Grps}
/-- The list's row is another one. -/
theorem St.swapRow {e' c e : Ent} {ms : List Ent} (h : St w0 w ([e'] :: (c :: e :: ms) :: F)) : St w0 w ((c :: e' :: ms) :: F) := by
  have h : St w0 w ([e] :: (c :: e' :: ms) :: F) := h.perm (by
    simp only [List.flatten_cons, List.cons_append, List.nil_append]
    exact (List.Perm.cons e' (.swap _ _ _)).trans ((List.Perm.swap _ _ _).trans (.cons e (.swap _ _ _))))
  exact h.drop 0

end Go.Fw
namespace Go.Fw
open Go
/-- A pointer against nil. -/
class PtE (P : Program) (t : TypeId) : Prop where
  eqS : ∀ (w : World) (x y : Operand) (a : Addr), (do eqGuard .eql t x y (.pointer (some a)) (.pointer none); binOp .eql t (.pointer (some a)) (.pointer none) : Sem Value).run P w = .ok (.bool false) w
  eqN : ∀ (w : World) (x y : Operand), (do eqGuard .eql t x y (.pointer none) (.pointer none); binOp .eql t (.pointer none) (.pointer none) : Sem Value).run P w = .ok (.bool true) w
  neS : ∀ (w : World) (x y : Operand) (a : Addr), (do eqGuard .neq t x y (.pointer (some a)) (.pointer none); binOp .neq t (.pointer (some a)) (.pointer none) : Sem Value).run P w = .ok (.bool true) w
  neN : ∀ (w : World) (x y : Operand), (do eqGuard .neq t x y (.pointer none) (.pointer none); binOp .neq t (.pointer none) (.pointer none) : Sem Value).run P w = .ok (.bool false) w
section
variable {P : Program} {w : World} {t : TypeId} [PtE P t] {x y : Operand} {K : Bool → World → Prop}
theorem RunN.pEqS {a : Addr} (h : K false w) : RunN P .bool (V (do eqGuard .eql t x y (.pointer (some a)) (.pointer none); binOp .eql t (.pointer (some a)) (.pointer none))) w K := RunN.of (kd := .bool) (PtE.eqS w x y a) h
theorem RunN.pEqN (h : K true w) : RunN P .bool (V (do eqGuard .eql t x y (.pointer none) (.pointer none); binOp .eql t (.pointer none) (.pointer none))) w K := RunN.of (kd := .bool) (PtE.eqN w x y) h
theorem RunN.pNeS {a : Addr} (h : K true w) : RunN P .bool (V (do eqGuard .neq t x y (.pointer (some a)) (.pointer none); binOp .neq t (.pointer (some a)) (.pointer none))) w K := RunN.of (kd := .bool) (PtE.neS w x y a) h
theorem RunN.pNeN (h : K false w) : RunN P .bool (V (do eqGuard .neq t x y (.pointer none) (.pointer none); binOp .neq t (.pointer none) (.pointer none))) w K := RunN.of (kd := .bool) (PtE.neN w x y) h
end
end Go.Fw
namespace Go.Fw
open Go
variable {w0 w : World}
theorem u8w (x : Int) : ∃ b : UInt8, Value.int .u8 (IntKind.u8.wrap x) = u8v b ∧ (b.toNat : Int) = IntKind.u8.wrap x := by
  have h : 0 ≤ IntKind.u8.wrap x ∧ IntKind.u8.wrap x ≤ 255 := by rw [IntKind.wrap_u8]; omega
  refine ⟨UInt8.ofNat (IntKind.u8.wrap x).toNat, ?_, ?_⟩
  · simp only [u8v, UInt8.toNat_ofNat']; congr 1; omega
  · rw [UInt8.toNat_ofNat']; omega
theorem bys_set (l : List UInt8) (i : Nat) (b : UInt8) : (bys l).set i (u8v b) = bys (l.set i b) := by
  simp [bys, List.map_set]
theorem one_slice {s : Sl} : ∀ v ∈ [Value.slice s.a s.len s.cap], v.oneCell' = true := by intro v hv; simp at hv; subst hv; rfl
theorem one_int {k : IntKind} {x : Int} : ∀ v ∈ [Value.int k x], v.oneCell' = true := by intro v hv; simp at hv; subst hv; rfl
theorem one_str {x : ByteArray} : ∀ v ∈ [Value.string x], v.oneCell' = true := by intro v hv; simp at hv; subst hv; rfl

/-- A row of bytes that grows from its old one: it holds it as its beginning, or the old one is left. -/
def Grow (E : TypeId) (w0 w : World) (q : Sl) (v : List UInt8) (d : Sl) (e : List UInt8) (G : Grps) : Prop :=
  q.len = v.length ∧ d.len = v.length + e.length ∧ (d.a = q.a ∧ d.cap = q.cap ∧ St w0 w ([.row E 1 d (bys (v ++ e))] :: G) ∨ St w0 w ([.row E 1 d (bys (v ++ e)), .row E 1 q (bys v)] :: G))
theorem Grow.start {E : TypeId} {q : Sl} {v : List UInt8} {G : Grps} (h : St w0 w ([.row E 1 q (bys v)] :: G)) : Grow E w0 w q v q [] G := by
  have hl := (h.rd (k := 0) (i := 0) ⟨_, rfl, rfl⟩).bys_len
  exact ⟨hl, by simpa using hl, .inl ⟨rfl, rfl, by simpa using h⟩⟩
theorem Grow.app {P : Program} {t E : TypeId} [et : Et P t E 1 1] (hbs : ∀ (w : World) (x : Int), (Instr.buildSlice t 1 #[(0, .int .u8 x)]).run P w = .ok (.slice (some ⟨w.heap.size, 0, none⟩) 1 1) (w.alloc (.cells ⟨[.int .u8 x]⟩ E)))
    {q : Sl} {v : List UInt8} {d : Sl} {e : List UInt8} {G : Grps} (hg : Grow E w0 w q v d e G) (x : Int) (b : UInt8) (hb : Value.int .u8 x = u8v b) (hl : v.length + e.length ≤ 1048576000) {ty : TypeId} {K : Sl → World → Prop}
    (hk : ∀ d' w', Grow E w0 w' q v d' (e ++ [b]) G → K d' w') :
    RunN P .sl (V (Instr.buildSlice t 1 #[(0, .int .u8 x)])) w fun u w =>
      RunN P .sl (V (Builtin.append_ #[t, t] ty #[.slice d.a d.len d.cap, .slice u.a u.len u.cap])) w fun u' w => K u' w := by
  obtain ⟨hql, hdl, hc⟩ := hg
  have ebb : bys (v ++ e) ++ [Value.int .u8 x] = bys (v ++ (e ++ [b])) := by
    rw [hb, ← List.append_assoc, bys_append (v ++ e)]; rfl
  rcases hc with ⟨ha, hcap, h⟩ | h
  · refine h.newS 1 (hbs _ _) rfl rfl rfl ?_
    intro u w hl1 hc1 _ h
    refine h.appKeep 1 0 ⟨_, rfl, rfl⟩ (h.rd (k := 0) (i := 0) ⟨_, rfl, rfl⟩) one_int (by simp only [maxLen]; omega) (by omega) ?_
    intro d' w hl' hd
    rw [ebb] at hd
    refine hk d' w ⟨hql, by simp; omega, ?_⟩
    rcases hd with ⟨ha', hc', h⟩ | h
    · dsimp only [updG, setO] at h
      exact .inl ⟨ha'.trans ha, hc'.trans hcap, h.drop 0⟩
    · dsimp only [updG, delO, List.append_nil] at h
      have h := h.drop 0
      dsimp only [delO] at h
      have hrd := h.preR (k := 0) (i := 1) ⟨_, rfl, rfl⟩ (hi := v.length) (by omega)
      dsimp only [updG, setO] at hrd
      right
      have e1 : (bys (v ++ e)).take (v.length * 1) = bys v := by rw [Nat.mul_one, bys_append, List.take_append_of_le_length (by simp), List.take_of_length_le (by simp)]
      have e2 : subS d 0 v.length 1 = q := by
        rw [subS_zero, ha, hcap, ← hql]
      rw [e1, e2] at hrd
      exact hrd
  · refine h.newS 1 (hbs _ _) rfl rfl rfl ?_
    intro u w hl1 hc1 _ h
    refine h.app 1 0 ⟨_, rfl, rfl⟩ (h.rd (k := 0) (i := 0) ⟨_, rfl, rfl⟩) one_int (by simp only [maxLen]; omega) (by omega) ?_
    intro d' w hl' h
    dsimp only [updG, setO] at h
    rw [ebb] at h
    exact hk d' w ⟨hql, by simp; omega, .inr (h.drop 0)⟩
/-- At the end the old one is there, whatever became of it. -/
theorem Grow.old {E : TypeId} {q : Sl} {v : List UInt8} {d : Sl} {e : List UInt8} {G : Grps} (hg : Grow E w0 w q v d e G) : St w0 w ([.row E 1 q (bys v)] :: G) := by
  obtain ⟨hql, hdl, hc⟩ := hg
  rcases hc with ⟨ha, hcap, h⟩ | h
  · have hrd := h.preR (k := 0) (i := 0) ⟨_, rfl, rfl⟩ (hi := v.length) (by omega)
    dsimp only [updG, setO] at hrd
    have e1 : (bys (v ++ e)).take (v.length * 1) = bys v := by rw [Nat.mul_one, bys_append, List.take_append_of_le_length (by simp), List.take_of_length_le (by simp)]
    have e2 : subS d 0 v.length 1 = q := by
      rw [subS_zero, ha, hcap, ← hql]
    rw [e1, e2] at hrd
    exact hrd
  · exact h.rest (k := 0) (i := 0) ⟨_, rfl, rfl⟩
end Go.Fw
namespace Go.Fw
open Go
section
variable {P : Program} {w0 w : World} {G : Grps}
theorem nthO_mem {α : Type} : ∀ {l : List α} {n : Nat} {x : α}, nthO l n = some x → x ∈ l
  | [], _, _, h => by cases h
  | y :: r, 0, x, h => by simp [nthO] at h; subst h; exact List.mem_cons_self ..
  | y :: r, n + 1, x, h => List.mem_cons_of_mem _ (nthO_mem (l := r) h)
theorem St.memG (h : St w0 w G) (k : Nat) {g : List Ent} {e : Ent} (hk : nthO G k = some g) (he : e ∈ g) : e.ok w w0.heap.size := h.fl.ok e (List.mem_flatten.2 ⟨g, nthO_mem hk, he⟩)
theorem StillV.el {t' : TypeId} [Sc P t'] {s : Sl} {sz : Nat} {vs : List Value} (h : Rd w s sz vs) {b o : Nat} (ha : s.a = some ⟨b, o, none⟩) {p : Addr} (j : Nat) (hp : p = ⟨b, o + j, none⟩) {v : Value} (hv : vs[j]? = some v) :
    StillV P (V (Instr.loadAt t' (.pointer (some p)))) v w := StillV.of (h.run_el ha j hp hv)
theorem StillV.idx {t e : TypeId} {sz by_ : Nat} [et : Et P t e sz by_] {s : Sl} {vs : List Value} (h : Rd w s sz vs) {b o : Nat} (ha : s.a = some ⟨b, o, none⟩) {kk : IntKind} {i : Int} (n : Nat) (hi : i = (n : Int)) (hn : n < s.len) :
    StillV P (V (Instr.indexAt t (.slice s.a s.len s.cap) (.int kk i))) (.pointer (some ⟨b, o + n * sz, none⟩)) w := by
  obtain ⟨b', o', ha', hr⟩ := h.run_idx (P := P) (t := t) (kk := kk) hi hn
  rw [ha] at ha'; cases ha'
  exact StillV.of hr
end
end Go.Fw
namespace Go.Fw
open Go
section
variable {P : Program} {w0 w : World} {G : Grps}
/-- The bytes of a constant text: they may be read. -/
theorem St.litC (h : St w0 w G) {t e n : Nat} {parts : Array (Nat × Value)} (l : List UInt8) (ht : P.underlying t = some (.slice e)) (he : P.underlying e = some (.int .u8)) (hn : n = l.length)
    (hr : (Instr.buildSlice t n parts).run P w = .ok (.slice (some ⟨w.heap.size, 0, none⟩) n n) (w.alloc (.cells ⟨bys l⟩ e))) {K : Sl → World → Prop}
    (hk : ∀ (s : Sl) w', s.len = l.length → St w0 w' ([.ro s 1 (bys l)] :: G) → K s w') :
    RunN P .sl (V (Instr.buildSlice t n parts)) w fun u w => RunN P .sl (V (convert t t (.slice u.a u.len u.cap))) w K := by
  refine RunN.of (kd := .sl) (x := ⟨some ⟨w.heap.size, 0, none⟩, n, n⟩) hr ?_
  refine RunN.of (kd := .sl) (x := ⟨some ⟨w.heap.size, 0, none⟩, n, n⟩) (Lib.run_convert_bytes_const w t e ⟨bys l⟩ n n ht he) (hk _ _ hn ?_)
  have hu : Upd w (w.alloc (.cells ⟨bys l⟩ e ((⟨bys l⟩ : Array Value).size, (⟨bys l⟩ : Array Value).size + 1))) nobody := Upd.alloc _ _ _
  refine h.new hu ⟨⟨fun b hb => ?_, ?_⟩, bys_one l⟩ fun j hj => ?_
  · simp [Sl.blk] at hb; subst hb; exact ⟨h.upd.size, by simp⟩
  · refine ⟨by simp [hn], .inr ⟨w.heap.size, 0, rfl, fun i v hv => ?_⟩, Nat.le_refl _⟩
    rw [cell_of_row _ _ _ ⟨bys l⟩ e _ (heap_alloc_new w _)]
    simpa using hv
  · simp [Ent.blk, Sl.blk] at hj; omega
end
end Go.Fw

/- What shelves of answers are made of: lists of slices, lists of texts, one that has grown from another; a row made of zeros. -/
set_option linter.unusedVariables false
set_option linter.unusedSimpArgs false
namespace Go.Fw
open Go Go.RowKit

@[reducible] def slv (s : Sl) : Value := .slice s.a s.len s.cap
abbrev Bs := Sl × List UInt8
/-- The row of one list of bytes. -/
def brw (E : TypeId) (x : Bs) : Ent := .row E 1 x.1 (bys x.2)
def lsl (l : List Bs) : List Value := l.map fun x => slv x.1
def lst (l : List Bs) : List Value := l.map fun x => .string ⟨x.2.toArray⟩
def lin (l : List Int) : List Value := l.map fun x => .int .i64 x
theorem lsl_len (l : List Bs) : (lsl l).length = l.length := by simp [lsl]
theorem lst_len (l : List Bs) : (lst l).length = l.length := by simp [lst]
theorem lin_len (l : List Int) : (lin l).length = l.length := by simp [lin]
theorem lsl_at {l : List Bs} {i : Nat} (h : i < l.length) : (lsl l)[i]? = some (Value.slice l[i].1.a l[i].1.len l[i].1.cap) := by simp [lsl, h]
theorem lst_at {l : List Bs} {i : Nat} (h : i < l.length) : (lst l)[i]? = some (Value.string ⟨l[i].2.toArray⟩) := by simp [lst, h]
theorem lin_at {l : List Int} {i : Nat} (h : i < l.length) : (lin l)[i]? = some (Value.int .i64 l[i]) := by simp [lin, h]
theorem lsl_snoc (l : List Bs) (x : Bs) : lsl (l ++ [x]) = lsl l ++ [.slice x.1.a x.1.len x.1.cap] := by simp [lsl]
theorem lst_snoc (l : List Bs) (x : Bs) : lst (l ++ [x]) = lst l ++ [.string ⟨x.2.toArray⟩] := by simp [lst]
theorem lin_snoc (l : List Int) (x : Int) : lin (l ++ [x]) = lin l ++ [.int .i64 x] := by simp [lin]
theorem lsl_app (a b : List Bs) : lsl (a ++ b) = lsl a ++ lsl b := by simp [lsl]
theorem lst_app (a b : List Bs) : lst (a ++ b) = lst a ++ lst b := by simp [lst]
theorem lsl_drop (l : List Bs) (n : Nat) : (lsl l).drop n = lsl (l.drop n) := by simp [lsl, List.map_drop]
theorem lst_drop (l : List Bs) (n : Nat) : (lst l).drop n = lst (l.drop n) := by simp [lst, List.map_drop]
theorem nthO_map {α β : Type} (f : α → β) (l : List α) {i : Nat} (hi : i < l.length) : nthO (l.map f) i = some (f l[i]) := by
  rw [nthO_get]; simp [hi]
theorem delO_map {α β : Type} (f : α → β) (l : List α) (i : Nat) : delO (l.map f) i = (l.eraseIdx i).map f := by
  induction l generalizing i with
  | nil => rfl
  | cons x r ih => cases i with
    | zero => rfl
    | succ i => simp [delO, ih]
theorem brw_at {E : TypeId} {l : List Bs} {i : Nat} (h : i < l.length) : nthO (l.map (brw E)) i = some (.row E 1 l[i].1 (bys l[i].2)) := nthO_map (brw E) l h
theorem setO_brw (E : TypeId) (l : List Bs) (i : Nat) (x : Bs) : setO (l.map (brw E)) i (brw E x) = (l.set i x).map (brw E) := by rw [setO_set, List.map_set]
theorem lsl_map (d : List Bs) : lsl d = (d.map (·.1)).map slv := by simp [lsl]

variable {w0 w : World} {G : Grps}
/-- What may be read as long as the rest stands. -/
def SeesG (w0 : World) (F : Grps) (p : Sl) (sz : Nat) (vs : List Value) : Prop := ∀ w, St w0 w F → Rd w p sz vs

/-- One that has grown: what it was is its beginning, or is left where it is. -/
def Far (E : TypeId) (x y : Bs) (g : List Ent) : Prop :=
  (∃ e, y.2 = x.2 ++ e) ∧ x.1.len = x.2.length ∧ y.1.len = y.2.length ∧ x.1.len ≤ x.1.cap ∧ (g = [brw E y] ∧ y.1.a = x.1.a ∨ g = [brw E y, brw E x])
theorem Far.reads {E : TypeId} {x y : Bs} {g : List Ent} (hf : Far E x y g) (h : St w0 w G) {k : Nat} {gs : List Ent} (hk : nthO G k = some gs) (hg : ∀ e ∈ g, e ∈ gs) : Rd w y.1 1 (bys y.2) ∧ Rd w x.1 1 (bys x.2) := by
  obtain ⟨⟨e, h1⟩, h2, h3, h4, h5⟩ := hf
  have hy : Rd w y.1 1 (bys y.2) := by
    have : brw E y ∈ gs := hg _ (by rcases h5 with ⟨h5, _⟩ | h5 <;> rw [h5] <;> simp)
    exact (h.memG k hk this).1.rd
  refine ⟨hy, ?_⟩
  rcases h5 with ⟨h5, ha⟩ | h5
  · have hp := hy.pre (hi := x.1.len) (by rw [h3, h1, List.length_append]; omega)
    rw [subS_zero] at hp
    refine ⟨by rw [bys_length, h2]; simp, ?_, h4⟩
    have e : (bys y.2).take (x.1.len * 1) = bys x.2 := by rw [h1, h2, Nat.mul_one, bys_append, List.take_append_of_le_length (by simp), List.take_of_length_le (by simp)]
    rw [e] at hp
    rcases hp.2.1 with h0 | ⟨b, o, hb, hc⟩
    · exact .inl h0
    · exact .inr ⟨b, o, by rw [← ha]; exact hb, hc⟩
  · have : brw E x ∈ gs := hg _ (by rw [h5]; simp)
    exact (h.memG k hk this).1.rd
theorem Grow.far {E : TypeId} {q : Sl} {v : List UInt8} {d : Sl} {e : List UInt8} (hg : Grow E w0 w q v d e G) (hc : q.len ≤ q.cap) : ∃ g, Far E (q, v) (d, v ++ e) g ∧ St w0 w (g :: G) := by
  obtain ⟨h1, h2, h3⟩ := hg
  rcases h3 with ⟨ha, hcap, h⟩ | h
  · exact ⟨_, ⟨⟨e, rfl⟩, h1, by dsimp only; rw [h2]; simp, hc, .inl ⟨rfl, ha⟩⟩, h⟩
  · exact ⟨_, ⟨⟨e, rfl⟩, h1, by dsimp only; rw [h2]; simp, hc, .inr rfl⟩, h⟩

def bI (x : Int) : UInt8 := UInt8.ofNat x.toNat
theorem bI_of {x : Int} (h : ∃ y, x = IntKind.u8.wrap y) : Value.int .u8 x = u8v (bI x) ∧ ((bI x).toNat : Int) = x := by
  obtain ⟨y, rfl⟩ := h
  have h : 0 ≤ IntKind.u8.wrap y ∧ IntKind.u8.wrap y ≤ 255 := by rw [IntKind.wrap_u8]; omega
  have h2 : ((bI (IntKind.u8.wrap y)).toNat : Int) = IntKind.u8.wrap y := by
    rw [bI, UInt8.toNat_ofNat']; omega
  exact ⟨by rw [u8v, h2], h2⟩
/-- The byte of a number. -/
def by8 (x : Int) : UInt8 := bI (IntKind.u8.wrap x)
theorem by8_v (x : Int) : Value.int .u8 (IntKind.u8.wrap x) = u8v (by8 x) := (bI_of ⟨x, rfl⟩).1
theorem by8_n (x : Int) : ((by8 x).toNat : Int) = IntKind.u8.wrap x := (bI_of ⟨x, rfl⟩).2

/-! ### what is made of zeros -/
section
variable {P : Program}
theorem made_one (z0 : Value) (n : Nat) : (madeCells #[z0] n).toList = List.replicate n z0 := by
  refine List.ext_getElem (by simp [madeCells]) fun i h1 h2 => ?_
  simp only [madeCells, Array.toList_map, Array.toList_range, List.getElem_map, List.getElem_range, List.getElem_replicate]
  have : i % (#[z0] : Array Value).size = 0 := by simp [Nat.mod_one]
  rw [this]; rfl
theorem St.makeN (h : St w0 w G) {t e : TypeId} {by_ : Nat} [et : Et P t e 1 by_] (z0 : Value) (hz : ((P.info? e).bind fun i => i.zero.map (·.cells)) = some #[z0]) (h1 : z0.oneCell' = true) {kl kc : IntKind} {l c : Int} (n : Nat) (hl : l = (n : Int)) (hc : c = (n : Int)) (hb : (by_ : Int) * n ≤ 281474976710656) (h63 : n ≤ 9223372036854775807) {K : Sl → World → Prop}
    (hk : ∀ (s' : Sl) w', s'.len = n → s'.cap = n → St w0 w' ([.row e 1 s' (List.replicate n z0)] :: G) → K s' w') :
    RunN P .sl (V (Instr.makeSlice t (.int kl l) (.int kc c))) w K := by
  subst hl; subst hc
  obtain ⟨i, z, hi, hzz, e1, e2, e3⟩ := et.h.hi
  have hzc : z.cells = #[z0] := by
    rw [hi] at hz; simp [hzz] at hz; exact hz
  have hr := run_make (P := P) w t e i z et.h.ht hi hzz kl kc n n (by omega) (Int.le_refl _) (by rw [e2]; exact hb) (by omega)
  rw [e1, hzc, Int.toNat_natCast, Nat.mul_one] at hr
  refine RunN.of (kd := .sl) (x := ⟨some ⟨w.heap.size, 0, none⟩, n, n⟩) hr (hk _ _ rfl rfl (h.new (Upd.alloc _ _ _) ⟨?_, fun v hv => ?_⟩ fun j hj => ?_))
  · have hl := made_one z0 n
    have := Ow.lit (w := w) (e := e) (sz := 1) (n := n) (c := n) (cs := (madeCells #[z0] n).toList) h.upd.size (Nat.le_refl n) (by simp only [maxLen]; omega) (by rw [hl]; simp)
    rw [hl, Nat.mul_one, List.take_of_length_le (by simp)] at this
    have e4 : (⟨List.replicate n z0⟩ : Array Value) = madeCells #[z0] n := by rw [← hl]
    rw [e4] at this
    exact this
  · simp only [Ent.vals] at hv
    rw [(List.mem_replicate.1 hv).2]; exact h1
  · simp [Ent.blk, Sl.blk] at hj; omega
end
end Go.Fw

/- Rows of any one-cell values that grow. -/
set_option linter.unusedVariables false
set_option linter.unusedSimpArgs false
namespace Go.Fw
open Go Go.RowKit
variable {w0 w : World} {G : Grps}
/-- A row that grows from its old one: it holds it as its beginning, or the old one is left. -/
def GrowV (E : TypeId) (w0 w : World) (q : Sl) (v : List Value) (d : Sl) (e : List Value) (G : Grps) : Prop :=
  q.len = v.length ∧ d.len = v.length + e.length ∧ (d.a = q.a ∧ d.cap = q.cap ∧ St w0 w ([.row E 1 d (v ++ e)] :: G) ∨ St w0 w ([.row E 1 d (v ++ e), .row E 1 q v] :: G))
theorem GrowV.start {E : TypeId} {q : Sl} {v : List Value} {G : Grps} (h : St w0 w ([.row E 1 q v] :: G)) : GrowV E w0 w q v q [] G := by
  have hl := (h.rd (k := 0) (i := 0) ⟨_, rfl, rfl⟩).1
  exact ⟨by omega, by simp; omega, .inl ⟨rfl, rfl, by simpa using h⟩⟩
theorem GrowV.app {P : Program} {t E by_ : Nat} [et : Et P t E 1 by_] (x : Value) (hx : x.oneCell' = true) {s0 : Sem Value} (hbs : ∀ (w : World), s0.run P w = .ok (.slice (some ⟨w.heap.size, 0, none⟩) 1 1) (w.alloc (.cells ⟨[x]⟩ E)))
    {q : Sl} {v : List Value} {d : Sl} {e : List Value} {G : Grps} (hg : GrowV E w0 w q v d e G) (hl : (v.length + e.length + 1) * by_ ≤ 140737488355328) (hl2 : v.length + e.length ≤ 1048576000) {ty : TypeId} {K : Sl → World → Prop}
    (hk : ∀ d' w', GrowV E w0 w' q v d' (e ++ [x]) G → K d' w') :
    RunN P .sl (V s0) w fun u w =>
      RunN P .sl (V (Builtin.append_ #[t, t] ty #[.slice d.a d.len d.cap, .slice u.a u.len u.cap])) w fun u' w => K u' w := by
  obtain ⟨hql, hdl, hc⟩ := hg
  have hone : ∀ y ∈ [x], y.oneCell' = true := fun y hy => by simp at hy; subst hy; exact hx
  have ebb : (v ++ e) ++ [x] = v ++ (e ++ [x]) := by rw [List.append_assoc]
  rcases hc with ⟨ha, hcap, h⟩ | h
  · refine h.newS 1 (hbs _) rfl rfl (by simp [hx]) ?_
    intro u w hl1 hc1 _ h
    refine h.appKeep 1 0 ⟨_, rfl, rfl⟩ (h.rd (k := 0) (i := 0) ⟨_, rfl, rfl⟩) hone (by simp only [maxLen]; omega) (by rw [hdl, hl1]; exact hl) ?_
    intro d' w hl' hd
    rw [ebb] at hd
    refine hk d' w ⟨hql, by simp; omega, ?_⟩
    rcases hd with ⟨ha', hc', h⟩ | h
    · dsimp only [updG, setO] at h
      exact .inl ⟨ha'.trans ha, hc'.trans hcap, h.drop 0⟩
    · dsimp only [updG, delO, List.append_nil] at h
      have h := h.drop 0
      dsimp only [delO] at h
      have hrd := h.preR (k := 0) (i := 1) ⟨_, rfl, rfl⟩ (hi := v.length) (by omega)
      dsimp only [updG, setO] at hrd
      right
      have e1 : (v ++ e).take (v.length * 1) = v := by rw [Nat.mul_one, List.take_append_of_le_length (by simp), List.take_of_length_le (by simp)]
      have e2 : subS d 0 v.length 1 = q := by
        rw [subS_zero, ha, hcap, ← hql]
      rw [e1, e2] at hrd
      exact hrd
  · refine h.newS 1 (hbs _) rfl rfl (by simp [hx]) ?_
    intro u w hl1 hc1 _ h
    refine h.app 1 0 ⟨_, rfl, rfl⟩ (h.rd (k := 0) (i := 0) ⟨_, rfl, rfl⟩) hone (by simp only [maxLen]; omega) (by rw [hdl, hl1]; exact hl) ?_
    intro d' w hl' h
    dsimp only [updG, setO] at h
    rw [ebb] at h
    exact hk d' w ⟨hql, by simp; omega, .inr (h.drop 0)⟩
/-- One that has grown: what it was is its beginning, or is left where it is. -/
def FarV (E : TypeId) (x y : Sl × List Value) (g : List Ent) : Prop :=
  (∃ e, y.2 = x.2 ++ e) ∧ x.1.len = x.2.length ∧ y.1.len = y.2.length ∧ x.1.len ≤ x.1.cap ∧ (g = [.row E 1 y.1 y.2] ∧ y.1.a = x.1.a ∨ g = [.row E 1 y.1 y.2, .row E 1 x.1 x.2])
theorem FarV.reads {E : TypeId} {x y : Sl × List Value} {g : List Ent} (hf : FarV E x y g) (h : St w0 w G) {k : Nat} {gs : List Ent} (hk : nthO G k = some gs) (hg : ∀ e ∈ g, e ∈ gs) : Rd w y.1 1 y.2 ∧ Rd w x.1 1 x.2 := by
  obtain ⟨⟨e, h1⟩, h2, h3, h4, h5⟩ := hf
  have hy : Rd w y.1 1 y.2 := by
    have : Ent.row E 1 y.1 y.2 ∈ gs := hg _ (by rcases h5 with ⟨h5, _⟩ | h5 <;> rw [h5] <;> simp)
    exact (h.memG k hk this).1.rd
  refine ⟨hy, ?_⟩
  rcases h5 with ⟨h5, ha⟩ | h5
  · have hp := hy.pre (hi := x.1.len) (by rw [h3, h1, List.length_append]; omega)
    rw [subS_zero] at hp
    refine ⟨by rw [h2]; simp, ?_, h4⟩
    have e : y.2.take (x.1.len * 1) = x.2 := by rw [h1, h2, Nat.mul_one, List.take_append_of_le_length (by simp), List.take_of_length_le (by simp)]
    rw [e] at hp
    rcases hp.2.1 with h0 | ⟨b, o, hb, hc⟩
    · exact .inl h0
    · exact .inr ⟨b, o, by rw [← ha]; exact hb, hc⟩
  · have : Ent.row E 1 x.1 x.2 ∈ gs := hg _ (by rw [h5]; simp)
    exact (h.memG k hk this).1.rd
theorem GrowV.far {E : TypeId} {q : Sl} {v : List Value} {d : Sl} {e : List Value} (hg : GrowV E w0 w q v d e G) (hc : q.len ≤ q.cap) : ∃ g, FarV E (q, v) (d, v ++ e) g ∧ St w0 w (g :: G) := by
  obtain ⟨h1, h2, h3⟩ := hg
  rcases h3 with ⟨ha, hcap, h⟩ | h
  · exact ⟨_, ⟨⟨e, rfl⟩, h1, by dsimp only; rw [h2]; simp, hc, .inl ⟨rfl, ha⟩⟩, h⟩
  · exact ⟨_, ⟨⟨e, rfl⟩, h1, by dsimp only; rw [h2]; simp, hc, .inr rfl⟩, h⟩
end Go.Fw

/- Arrays: a place of one, one as a slice; copies into a piece of any type. -/
set_option linter.unusedVariables false
set_option linter.unusedSimpArgs false
namespace Go.Fw
open Go Go.RowKit
class Ar (P : Program) (t : TypeId) (n : outParam Nat) : Prop where
  h : ∃ e i, P.underlying t = some (.array n e) ∧ P.info? e = some i ∧ i.size = 1
section
variable {P : Program} {w0 w w' : World} {G : Grps}
theorem Ar.of {t n e : Nat} (h : P.underlying t = some (.array n e)) (h1 : (P.info? e).map (·.size) = some 1) : Ar P t n := by
  cases hi : P.info? e with
  | none => simp [hi] at h1
  | some i => exact ⟨e, i, h, hi, by simpa [hi] using h1⟩
theorem run_arr {t n : Nat} [ar : Ar P t n] {a : Addr} {g o : Nat} (ha : a = ⟨g, o, none⟩) {k : IntKind} {i : Int} (j : Nat) (hj : i = (j : Int)) (hn : j < n) :
    (Instr.indexAt t (.pointer (some a)) (.int k i)).run P w = .ok (.pointer (some ⟨g, o + j, none⟩)) w := by
  subst hj; subst ha
  obtain ⟨e, inf, hu, hi, hs⟩ := ar.h
  have h0 : (0 : Int) ≤ (j : Int) := by omega
  have h1 : (j : Int) < (n : Int) := by omega
  simp [Instr.indexAt, asIntOf, run_underlying hu, Instr.sureAddr, h0, h1, hn, sizeOf, typeInfo, hi, hs, add_lit']
theorem RunN.arr {t n : Nat} [ar : Ar P t n] {a : Addr} {g o : Nat} (ha : a = ⟨g, o, none⟩) {k : IntKind} {i : Int} (j : Nat) (hj : i = (j : Int)) (hn : j < n) {K : Addr → World → Prop} (hk : K ⟨g, o + j, none⟩ w) :
    RunN P .addr (V (Instr.indexAt t (.pointer (some a)) (.int k i))) w K := RunN.of (kd := .addr) (run_arr ha j hj hn) hk
theorem ReadN.arr {t n : Nat} [ar : Ar P t n] {a : Addr} {g o : Nat} (ha : a = ⟨g, o, none⟩) {k : IntKind} {i : Int} (j : Nat) (hj : i = (j : Int)) (hn : j < n) {K : Addr → Prop} (hk : K ⟨g, o + j, none⟩) :
    ReadN P .addr (V (Instr.indexAt t (.pointer (some a)) (.int k i))) w K := ReadN.of (kd := .addr) (run_arr ha j hj hn) hk
theorem run_arrS {t n : Nat} [ar : Ar P t n] {a : Addr} {g o : Nat} (ha : a = ⟨g, o, none⟩) :
    (Instr.sliceAt t (.pointer (some a)) none none none).run P w = .ok (.slice (some ⟨g, o, none⟩) n n) w := by
  subst ha
  obtain ⟨e, inf, hu, hi, hs⟩ := ar.h
  simp [Instr.sliceAt, Instr.sureAddr, run_underlying hu, Instr.sliceBounds, sliced, sizeOf, typeInfo, hi, hs, add_lit']
theorem RunN.arrS {t n : Nat} [ar : Ar P t n] {a : Addr} {g o : Nat} (ha : a = ⟨g, o, none⟩) {K : Sl → World → Prop} (hk : K ⟨some ⟨g, o, none⟩, n, n⟩ w) :
    RunN P .sl (V (Instr.sliceAt t (.pointer (some a)) none none none)) w K := RunN.of (kd := .sl) (x := ⟨some ⟨g, o, none⟩, n, n⟩) (run_arrS ha) hk

/-- A block of cells as a row. -/
theorem St.celRow {b : Nat} {t : TypeId} {cs : List Value} (h : St w0 w ([.cel b t cs] :: G)) {n : Nat} (hn : cs.length = n) (hm : n ≤ maxLen) : St w0 w ([.row t 1 ⟨some ⟨b, 0, none⟩, n, n⟩ cs] :: G) := by
  have he := h.ent (k := 0) (i := 0) ⟨_, rfl, rfl⟩
  have := h.change1 (k := 0) (i := 0) (e' := .row t 1 ⟨some ⟨b, 0, none⟩, n, n⟩ cs) ⟨_, rfl, rfl⟩ (Upd.refl _ _) ⟨⟨by simp [hn], .inr ⟨b, 0, cs, rfl, he.1.1, he.1.2, Nat.le_refl _, hm, by dsimp only; omega, by dsimp only; rw [List.drop_zero, Nat.mul_one, ← hn, List.take_length]⟩⟩, he.2⟩ fun j hj => .inl (by simpa [Ent.blk, Sl.blk] using hj)
  exact this

theorem run_copyOwE {base : Nat} {t ts ty e E : TypeId} {sz by_ : Nat} (et : ET P t e sz by_) (ets : (P.underlying ts).isSome = true) (hsz : 0 < sz) {s : Sl} {vs : List Value} (ho : Ow w base E sz s vs) {i dl dc : Nat} {da : Option Addr}
    (hda : ∀ g o, s.a = some ⟨g, o, none⟩ → 0 < dl → da = some ⟨g, o + i * sz, none⟩) (hdl : i + dl ≤ s.len) {src : Sl} {ws : List Value} (hr : Rd w src sz ws) (h1 : ∀ v ∈ ws, v.oneCell' = true) :
    ∃ w', (Builtin.copy_ #[t, ts] ty #[.slice da dl dc, .slice src.a src.len src.cap]).run P w = .ok (.int .i64 (Nat.min src.len dl : Nat)) w' ∧
      Ow w' base E sz s (vs.take (i * sz) ++ ws.take (Nat.min src.len dl * sz) ++ vs.drop ((i + Nat.min src.len dl) * sz)) ∧ Upd w w' (fun k => s.blk = some k) := by
  obtain ⟨j, z, hi, hz, h2, h3, h4⟩ := et.hi
  have hmin1 : Nat.min src.len dl ≤ src.len := Nat.min_le_left _ _
  have hmin2 : Nat.min src.len dl ≤ dl := Nat.min_le_right _ _
  generalize hn : Nat.min src.len dl = n at *
  have hgo : goInt n = (.int .i64 (n : Int) : Value) := rfl
  by_cases h0 : n = 0
  · subst h0
    refine ⟨w, ?_, ?_, Upd.refl _ _⟩
    · have hfc : (Builtin.firstCells sz 0 (.slice src.a src.len src.cap)).run P w = .ok #[] w := by
        cases src.a <;> simp [Builtin.firstCells, loadCells, loadCellsFrom]
      cases da <;> simp [Builtin.copy_, run_underlying et.ht, Builtin.lenOf, sizeOf, typeInfo, hi, h2, hn, hfc, storeCells] <;> rfl
    · simp only [Nat.zero_mul, List.take_zero, List.append_nil, Nat.add_zero, List.take_append_drop]; exact ho
  · have hpos : 0 < n * sz := Nat.mul_pos (by omega) hsz
    obtain ⟨b, o, ha, hl⟩ := hr.loads (P := P) (n := n) (by omega) hpos
    have hlw : (ws.take (n * sz)).length = n * sz := by
      have h5 := hr.1
      have h6 : n * sz ≤ src.len * sz := Nat.mul_le_mul_right _ hmin1
      simp; omega
    have hlv := ho.1
    have hfit : (i + n) * sz ≤ s.len * sz := Nat.mul_le_mul_right _ (by omega)
    rw [Nat.add_mul] at hfit
    obtain ⟨g, o', hsa, hblk, w', hst, how, hup⟩ := ho.write (P := P) (i := i * sz) (news := ws.take (n * sz)) (by omega) (by intro e; rw [e] at hlw; simp at hlw; omega) (fun v hv => h1 v (List.mem_of_mem_take hv))
    have hd := hda g o' hsa (by omega)
    refine ⟨w', ?_, ?_, hup.mono fun k _ hk => by rw [hblk, hk]⟩
    · rw [hd, ha]
      simp [Builtin.copy_, run_underlying et.ht, Builtin.lenOf, Builtin.firstCells, sizeOf, typeInfo, hi, h2, hn, hl, hst, hgo]
    · rw [hlw, ← Nat.add_mul] at how; exact how
/-- Copy into a part of an owned piece, whatever it was made as. -/
theorem St.copyE (h : St w0 w G) (k i : Nat) {e E : TypeId} {sz by_ : Nat} {s : Sl} {vs : List Value} (he : Has G k i (.row E sz s vs)) {t ts ty : TypeId} [et : Et P t e sz by_] {e2 : TypeId} {sz2 b2 : Nat} [et2 : Et P ts e2 sz2 b2] {da : Option Addr} {dl dc : Nat} (lo : Nat)
    (hda : ∀ b o, s.a = some ⟨b, o, none⟩ → 0 < dl → da = some ⟨b, o + lo * sz, none⟩) (hdl : lo + dl ≤ s.len) {p : Sl} {ws : List Value} (hr : Rd w p sz ws) (h1 : ∀ v ∈ ws, v.oneCell' = true) {K : Int → World → Prop}
    (hk : ∀ w', St w0 w' (updG G k i [.row E sz s (vs.take (lo * sz) ++ ws.take (Nat.min p.len dl * sz) ++ vs.drop ((lo + Nat.min p.len dl) * sz))]) → K (Nat.min p.len dl : Nat) w') :
    RunN P (.int .i64) (V (Builtin.copy_ #[t, ts] ty #[.slice da dl dc, .slice p.a p.len p.cap])) w K := by
  obtain ⟨w', hr', ho, hu⟩ := run_copyOwE (P := P) (ts := ts) (ty := ty) (da := da) (dc := dc) et.h (by simp [et2.h.ht]) et.pos (h.ow he) hda hdl hr h1
  refine RunN.of (kd := .int .i64) hr' (hk w' (h.change1 he hu ⟨ho, fun v hv => ?_⟩ fun j hj => .inl hj))
  simp only [Ent.vals] at hv
  rcases List.mem_append.1 hv with hv | hv
  · rcases List.mem_append.1 hv with hv | hv
    · exact h.one1 he v (List.mem_of_mem_take hv)
    · exact h1 v (List.mem_of_mem_take hv)
  · exact h.one1 he v (List.mem_of_mem_drop hv)
/-- A new piece takes another one's place in the first group behind it. -/
theorem St.plug {e d : Ent} {g : List Ent} (h : St w0 w ([e] :: g :: G)) {i : Nat} (hi : nthO g i = some d) : St w0 w (setO g i e :: G) := by
  have h : St w0 w ([d] :: setO g i e :: G) := h.perm (by
    have p1 := nthO_perm hi
    have p2 := setO_perm e hi
    simp only [List.flatten_cons, List.cons_append, List.nil_append]
    refine (List.Perm.cons e (p1.append_right _)).trans ?_
    refine (List.Perm.swap _ _ _).trans (List.Perm.cons d ?_)
    exact (p2.append_right _).symm)
  exact h.drop 0
end
end Go.Fw

/- Groups in another order, some of them left; a loop's measure that looks at memory. -/
set_option linter.unusedVariables false
set_option linter.unusedSimpArgs false
namespace Go.Fw
open Go Go.RowKit
variable {w0 w : World} {G : Grps}
def pick (G : Grps) : List Nat → Grps → Grps
  | [], T => T
  | i :: r, T => match nthO G i with | some g => g :: pick G r T | none => pick G r T
def dropO : Nat → Grps → Grps
  | 0, l => l
  | _ + 1, [] => []
  | n + 1, _ :: r => dropO n r
theorem pick_eq (G : Grps) (is : List Nat) (T : Grps) : pick G is T = is.filterMap (nthO G) ++ T := by
  induction is with
  | nil => rfl
  | cons i r ih => simp only [pick, List.filterMap_cons]; split <;> simp_all
theorem dropO_eq (G : Grps) (n : Nat) : dropO n G = G.drop n := by
  induction n generalizing G with
  | zero => rfl
  | succ n ih => cases G with
    | nil => rfl
    | cons x r => simp [dropO, ih]
theorem range_nth (G : Grps) (n : Nat) : (List.range n).filterMap (nthO G) = G.take n := by
  induction n with
  | zero => rfl
  | succ n ih =>
    rw [List.range_succ, List.filterMap_append, ih, List.take_add_one]
    congr 1
    simp only [List.filterMap_cons, List.filterMap_nil, nthO_get]
    cases G[n]? <;> rfl
/-- The first n groups in this order; those that are not named are left. -/
theorem St.ord (h : St w0 w G) (n : Nat) (is : List Nat) (hp : (is ++ (List.range n).filter (fun i => !is.contains i)).isPerm (List.range n) = true := by decide) : St w0 w (pick G is (dropO n G)) := by
  have hp := List.isPerm_iff.1 hp
  have h1 := hp.filterMap (nthO G)
  rw [range_nth, List.filterMap_append] at h1
  have h2 : G.Perm (((List.range n).filter (fun i => !is.contains i)).filterMap (nthO G) ++ (is.filterMap (nthO G) ++ G.drop n)) := by
    conv => lhs; rw [← List.take_append_drop n G]
    rw [← List.append_assoc]
    exact (h1.symm.trans List.perm_append_comm).append_right _
  rw [pick_eq, dropO_eq]
  generalize ((List.range n).filter (fun i => !is.contains i)).filterMap (nthO G) = X at h2
  have h3 := (h.perm h2.flatten).fl
  rw [List.flatten_append] at h3
  exact ⟨⟨h3.upd, fun e he => h3.ok e (List.mem_append_right _ he), (List.pairwise_append.1 h3.ap).2.1⟩⟩
theorem mkW {α : Type} {body : α → World → (α → World → Prop) → Prop} {s : α} {w : World} (I : α → World → Prop) (μ : α → World → Nat) (h0 : I s w) (h : ∀ s w, I s w → ∀ k : α → World → Prop, (∀ s' w', I s' w' → μ s' w' < μ s w → k s' w') → body s w k) : LoopX body s w :=
  ⟨I, μ, h0, fun s w hI => h s w hI _ fun s' w' h1 h2 => ⟨h1, h2⟩⟩
theorem St.ob (h : St w0 w G) {k i b : Nat} {o : Obj} (he : Has G k i (.obj b o)) : w.heap[b]? = some o := (h.ent he).1.2
/-- Another object in its place. -/
theorem St.setOb (h : St w0 w G) {k i b : Nat} {o : Obj} (he : Has G k i (.obj b o)) (o' : Obj) : St w0 { w with heap := w.heap.setIfInBounds b o' } (updG G k i [.obj b o']) := by
  have hob := h.ob he
  have hlt := lt_of_obj hob
  refine h.change1 he ⟨rfl, rfl, rfl, by simp, fun j hj hs => ?_⟩ ⟨⟨(h.ent he).1.1, by simp [hlt]⟩, fun v hv => by simp [Ent.vals] at hv⟩ fun j hj => .inl hj
  have : b ≠ j := fun e => hs (by subst e; rfl)
  simp [Array.getElem?_setIfInBounds, this]
/-- A new object. -/
theorem St.newOb (h : St w0 w G) (o : Obj) : St w0 (w.alloc o) ([.obj w.heap.size o] :: G) :=
  h.new (Upd.alloc _ _ _) ⟨⟨h.upd.size, heap_alloc_new w o⟩, fun v hv => by simp [Ent.vals] at hv⟩ fun j hj => by simp [Ent.blk] at hj; omega
/-- A number in memory. -/
def cellN (b i : Nat) (w : World) : Nat := match w.cell? ⟨b, i, none⟩ with | some (.int _ n) => n.toNat | _ => 0
theorem cellN_of (h : St w0 w G) {k i b : Nat} {t : TypeId} {cs : List Value} (he : Has G k i (.cel b t cs)) {m : Nat} {kk : IntKind} {n : Nat} (hv : nthO cs m = some (.int kk (n : Int))) : cellN b m w = n := by
  unfold cellN
  rw [(h.blk he).cell, ← nthO_get, hv]
  simp
theorem bys_copy (x y : List UInt8) (lo k : Nat) : (bys x).take (lo * 1) ++ (bys y).take (k * 1) ++ (bys x).drop ((lo + k) * 1) = bys (x.take lo ++ y.take k ++ x.drop (lo + k)) := by
  simp [bys, List.map_take, List.map_drop]
theorem bys_take (x : List UInt8) (n : Nat) : (bys x).take (n * 1) = bys (x.take n) := by simp [bys, List.map_take]
theorem bys_drop (x : List UInt8) (n : Nat) : (bys x).drop (n * 1) = bys (x.drop n) := by simp [bys, List.map_drop]
theorem bys_rep (n : Nat) : List.replicate n (Value.int .u8 0) = bys (List.replicate n 0) := by rw [bys, List.map_replicate]; rfl
end Go.Fw

/- Maps with keys of two numbers; structs of numbers compared. -/
set_option linter.unusedVariables false
set_option linter.unusedSimpArgs false
namespace Go.Fw
open Go Go.RowKit
abbrev kv2 (a b : Int) : Value := .agg #[.int .i64 a, .int .i64 b]
/-- A type of two numbers. -/
class K2 (P : Program) (t : TypeId) : Prop where
  eq : ∀ (w : World) (a b c d : Int), (Op.equal t (kv2 a b) (kv2 c d)).run P w = .ok (a == c && b == d) w
  chk : ∀ (w : World) (em : Bool) (a b : Int), (Instr.checkKey em 10000 t (kv2 a b)).run P w = .ok () w
  wide : (match P.underlying t with | some (.array _ _) | some (.struct _) => true | _ => false) = true
  eqV : ∀ (w : World) (x y : Operand) (a b c d : Int), (do eqGuard .eql t x y (kv2 a b) (kv2 c d); binOp .eql t (kv2 a b) (kv2 c d) : Sem Value).run P w = .ok (.bool (a == c && b == d)) w
  neV : ∀ (w : World) (x y : Operand) (a b c d : Int), (do eqGuard .neq t x y (kv2 a b) (kv2 c d); binOp .neq t (kv2 a b) (kv2 c d) : Sem Value).run P w = .ok (.bool !(a == c && b == d)) w
abbrev kv4 (a b c d : Int) : Value := .agg #[.int .i64 a, .int .i64 b, .int .i64 c, .int .i64 d]
def eq4 (a b c d a' b' c' d' : Int) : Bool := a == a' && b == b' && c == c' && d == d'
class K4 (P : Program) (t : TypeId) : Prop where
  eqV : ∀ (w : World) (x y : Operand) (a b c d a' b' c' d' : Int), (do eqGuard .eql t x y (kv4 a b c d) (kv4 a' b' c' d'); binOp .eql t (kv4 a b c d) (kv4 a' b' c' d') : Sem Value).run P w = .ok (.bool (eq4 a b c d a' b' c' d')) w
  neV : ∀ (w : World) (x y : Operand) (a b c d a' b' c' d' : Int), (do eqGuard .neq t x y (kv4 a b c d) (kv4 a' b' c' d'); binOp .neq t (kv4 a b c d) (kv4 a' b' c' d') : Sem Value).run P w = .ok (.bool !(eq4 a b c d a' b' c' d')) w
section
variable {P : Program}
def eqF (d : Nat) (xs ys : Array Value) : List (Bool × TypeId × Nat) → Sem Bool
  | [] => pure true
  | (c, t, o) :: fs =>
    if c = true then do
      let a ← part t xs o
      let b ← part t ys o
      let r ← Op.equalIn d t a b
      if (!r) = true then pure false else eqF d xs ys fs
    else eqF d xs ys fs
def fsum (f : Field) : Bool × TypeId × Nat := (f.name != "_", f.type, f.offset)
theorem eqFields_map (d : Nat) (xs ys : Array Value) (fs : List Field) : Op.eqFields d xs ys fs = eqF d xs ys (fs.map fsum) := by
  induction fs with
  | nil => rfl
  | cons f r ih =>
    rw [List.map_cons, Op.eqFields, eqF, ih]
    by_cases h : f.name = "_" <;> simp [fsum, h]
theorem k2_run {t ti : TypeId} (ht : P.underlying t = some (.struct (P.fieldsOf t))) (hp : P.stoodInHeld t = false) (hfs : (P.fieldsOf t).toList.map fsum = [(true, ti, 0), (true, ti, 1)]) (hi : P.underlying ti = some (.int .i64))
    (p0 : ∀ (w : World) (x y : Int), (part ti #[.int .i64 x, .int .i64 y] 0).run P w = .ok (.int .i64 x) w) (p1 : ∀ (w : World) (x y : Int), (part ti #[.int .i64 x, .int .i64 y] 1).run P w = .ok (.int .i64 y) w)
    (d : Nat) (w : World) (a b c e : Int) : (Op.equalIn (d + 2) t (kv2 a b) (kv2 c e)).run P w = .ok (a == c && b == e) w := by
  rw [run_equalIn_agg w (d + 1) t _ _ ht hp, eqFields_map, hfs]
  simp only [eqF, if_true, Sem.run_bind, p0, p1, Result.andThen_ok, run_equalIn_int w d ti .i64 .i64 _ _ hi]
  cases h1 : (a == c) <;> cases h2 : (b == e) <;> simp [Sem.run_bind, p0, p1, run_equalIn_int w d ti .i64 .i64 _ _ hi, h2]
theorem K2.of {t ti : TypeId} (ht : P.underlying t = some (.struct (P.fieldsOf t))) (hp : P.stoodInHeld t = false) (hfs : (P.fieldsOf t).toList.map fsum = [(true, ti, 0), (true, ti, 1)]) (hi : P.underlying ti = some (.int .i64))
    (p0 : ∀ (w : World) (x y : Int), (part ti #[.int .i64 x, .int .i64 y] 0).run P w = .ok (.int .i64 x) w) (p1 : ∀ (w : World) (x y : Int), (part ti #[.int .i64 x, .int .i64 y] 1).run P w = .ok (.int .i64 y) w)
    (hchk : ∀ (w : World) (em : Bool) (a b : Int), (Instr.checkKey em 10000 t (kv2 a b)).run P w = .ok () w) (hg : P.eqGuardType P.depth t = false) : K2 P t := by
  refine ⟨fun w a b c d => k2_run ht hp hfs hi p0 p1 9998 w a b c d, hchk, by rw [ht], fun w x y a b c d => ?_, fun w x y a b c d => ?_⟩
  · rw [Sem.run_bind, run_eqGuard_agg w _ _ _ _ _ _ hg, Result.andThen_ok, run_eql_struct, k2_run ht hp hfs hi p0 p1 9998]
    rfl
  · rw [Sem.run_bind, run_eqGuard_agg w _ _ _ _ _ _ hg, Result.andThen_ok, run_neq_struct, k2_run ht hp hfs hi p0 p1 9998]
    rfl
theorem k4_run {t t2 ti ti' : TypeId} (ht : P.underlying t = some (.struct (P.fieldsOf t))) (hp : P.stoodInHeld t = false) (hfs : (P.fieldsOf t).toList.map fsum = [(true, t2, 0), (true, ti, 2), (true, ti', 3)]) (hi : P.underlying ti = some (.int .i64)) (hi' : P.underlying ti' = some (.int .i64))
    (h2 : ∀ (d : Nat) (w : World) (a b c e : Int), (Op.equalIn (d + 2) t2 (kv2 a b) (kv2 c e)).run P w = .ok (a == c && b == e) w)
    (p0 : ∀ (w : World) (x y z u : Int), (part t2 #[.int .i64 x, .int .i64 y, .int .i64 z, .int .i64 u] 0).run P w = .ok (kv2 x y) w)
    (p2 : ∀ (w : World) (x y z u : Int), (part ti #[.int .i64 x, .int .i64 y, .int .i64 z, .int .i64 u] 2).run P w = .ok (.int .i64 z) w)
    (p3 : ∀ (w : World) (x y z u : Int), (part ti' #[.int .i64 x, .int .i64 y, .int .i64 z, .int .i64 u] 3).run P w = .ok (.int .i64 u) w)
    (d : Nat) (w : World) (x y z u x' y' z' u' : Int) : (Op.equalIn (d + 3) t (kv4 x y z u) (kv4 x' y' z' u')).run P w = .ok (eq4 x y z u x' y' z' u') w := by
  rw [run_equalIn_agg w (d + 2) t _ _ ht hp, eqFields_map, hfs]
  simp only [eqF, if_true, Sem.run_bind, p0, Result.andThen_ok, h2, eq4]
  cases h1 : (x == x' && y == y')
  · simp
  · simp only [Bool.not_true, Bool.false_eq_true, if_false, Sem.run_bind, p2, p3, Result.andThen_ok, run_equalIn_int w (d + 1) ti .i64 .i64 _ _ hi, Bool.true_and]
    cases h3 : (z == z')
    · simp
    · simp only [Bool.not_true, Bool.false_eq_true, if_false, Sem.run_bind, p2, p3, Result.andThen_ok, run_equalIn_int w (d + 1) ti' .i64 .i64 _ _ hi', Bool.true_and]
      cases h4 : (u == u') <;> simp
theorem K4.of {t t2 ti ti' : TypeId} (ht : P.underlying t = some (.struct (P.fieldsOf t))) (hp : P.stoodInHeld t = false) (hfs : (P.fieldsOf t).toList.map fsum = [(true, t2, 0), (true, ti, 2), (true, ti', 3)]) (hi : P.underlying ti = some (.int .i64)) (hi' : P.underlying ti' = some (.int .i64))
    (h2 : ∀ (d : Nat) (w : World) (a b c e : Int), (Op.equalIn (d + 2) t2 (kv2 a b) (kv2 c e)).run P w = .ok (a == c && b == e) w)
    (p0 : ∀ (w : World) (x y z u : Int), (part t2 #[.int .i64 x, .int .i64 y, .int .i64 z, .int .i64 u] 0).run P w = .ok (kv2 x y) w)
    (p2 : ∀ (w : World) (x y z u : Int), (part ti #[.int .i64 x, .int .i64 y, .int .i64 z, .int .i64 u] 2).run P w = .ok (.int .i64 z) w)
    (p3 : ∀ (w : World) (x y z u : Int), (part ti' #[.int .i64 x, .int .i64 y, .int .i64 z, .int .i64 u] 3).run P w = .ok (.int .i64 u) w) (hg : P.eqGuardType P.depth t = false) : K4 P t := by
  refine ⟨fun w x y a b c d a' b' c' d' => ?_, fun w x y a b c d a' b' c' d' => ?_⟩
  · rw [Sem.run_bind, run_eqGuard_agg w _ _ _ _ _ _ hg, Result.andThen_ok, run_eql_struct, k4_run ht hp hfs hi hi' h2 p0 p2 p3 9997]
    rfl
  · rw [Sem.run_bind, run_eqGuard_agg w _ _ _ _ _ _ hg, Result.andThen_ok, run_neq_struct, k4_run ht hp hfs hi hi' h2 p0 p2 p3 9997]
    rfl
end
section
variable {P : Program} {w w0 : World} {G : Grps} {t : TypeId}
theorem RunN.k2Eq [K2 P t] {x y : Operand} {a b c d : Int} {K : Bool → World → Prop} (h : K (a == c && b == d) w) : RunN P .bool (V (do eqGuard .eql t x y (kv2 a b) (kv2 c d); binOp .eql t (kv2 a b) (kv2 c d))) w K := RunN.of (kd := .bool) (K2.eqV w x y a b c d) h
theorem ReadN.k2Eq [K2 P t] {x y : Operand} {a b c d : Int} {K : Bool → Prop} (h : K (a == c && b == d)) : ReadN P .bool (V (do eqGuard .eql t x y (kv2 a b) (kv2 c d); binOp .eql t (kv2 a b) (kv2 c d))) w K := ReadN.of (kd := .bool) (K2.eqV w x y a b c d) h
theorem ReadN.k2Ne [K2 P t] {x y : Operand} {a b c d : Int} {K : Bool → Prop} (h : K (!(a == c && b == d))) : ReadN P .bool (V (do eqGuard .neq t x y (kv2 a b) (kv2 c d); binOp .neq t (kv2 a b) (kv2 c d))) w K := ReadN.of (kd := .bool) (K2.neV w x y a b c d) h
theorem RunN.k4Eq [K4 P t] {x y : Operand} {a b c d a' b' c' d' : Int} {K : Bool → World → Prop} (h : K (eq4 a b c d a' b' c' d') w) : RunN P .bool (V (do eqGuard .eql t x y (kv4 a b c d) (kv4 a' b' c' d'); binOp .eql t (kv4 a b c d) (kv4 a' b' c' d'))) w K := RunN.of (kd := .bool) (K4.eqV w x y a b c d a' b' c' d') h
theorem ReadN.k4Ne [K4 P t] {x y : Operand} {a b c d a' b' c' d' : Int} {K : Bool → Prop} (h : K (!(eq4 a b c d a' b' c' d'))) : ReadN P .bool (V (do eqGuard .neq t x y (kv4 a b c d) (kv4 a' b' c' d'); binOp .neq t (kv4 a b c d) (kv4 a' b' c' d'))) w K := ReadN.of (kd := .bool) (K4.neV w x y a b c d a' b' c' d') h

/-- What a map with keys of two numbers holds: (key, value). -/
abbrev M2 := List ((Int × Int) × Value)
def m2e (x : ((Int × Int) × Value) × Nat) : MapEntry := { key := kv2 x.1.1.1 x.1.1.2, val := x.1.2, born := x.2 }
def m2o (m : M2) : Obj := .map ⟨m.zipIdx.map m2e⟩ m.length
def m2get (m : M2) (k : Int × Int) : Option Value := (m.find? (fun x => k == x.1)).map (·.2)
theorem run_findAsking [K2 P t] (k : Int × Int) : ∀ (m : M2) (n i : Nat), ∃ j, (Instr.findAsking t (kv2 k.1 k.2) ((m.zipIdx n).map m2e) i).run P w = .ok ((m2get m k).map fun v => (j, v)) w
  | [], n, i => ⟨0, rfl⟩
  | x :: r, n, i => by
    obtain ⟨j, hj⟩ := run_findAsking k r (n + 1) (i + 1)
    rw [List.zipIdx_cons, List.map_cons, Instr.findAsking]
    have e := K2.eq (P := P) (t := t) w k.1 k.2 x.1.1 x.1.2
    by_cases h : k = x.1
    · refine ⟨i, ?_⟩
      have h1 : (k.1 == x.1.1 && k.2 == x.1.2) = true := by subst h; simp
      rw [h1] at e
      simp only [Sem.run_bind, m2e, e, Result.andThen_ok, if_true, Sem.run_pure]
      simp [m2get, h]
    · refine ⟨j, ?_⟩
      have h1 : (k.1 == x.1.1 && k.2 == x.1.2) = false := by
        rw [Bool.eq_false_iff]; intro hc; simp at hc; exact h (Prod.ext hc.1 hc.2)
      rw [h1] at e
      have h2 : m2get (x :: r) k = m2get r k := by
        have : (k == x.1) = false := by simpa using h
        simp [m2get, this]
      rw [h2]
      simp only [Sem.run_bind, m2e, e, Result.andThen_ok, Bool.false_eq_true, if_false]
      exact hj
theorem run_lookup2 [K2 P t] {xt e : TypeId} (hu : P.underlying xt = some (.map t e)) {b : Nat} {m : M2} (hb : w.heap[b]? = some (m2o m)) (k : Int × Int) {z : Value} (hz : (zeroValue e).run P w = .ok z w) :
    (Instr.lookup xt (.map (some b)) (kv2 k.1 k.2) false).run P w = .ok ((m2get m k).getD z) w := by
  obtain ⟨j, hj⟩ := run_findAsking (P := P) (w := w) (t := t) k m 0 0
  have hf := run_findKey_eq (P := P) (w := w) (k := t) K2.wide (kv2 k.1 k.2) (m.zipIdx.map m2e)
  rw [hj] at hf
  have hg : (getObj b).run P w = .ok (.map ⟨m.zipIdx.map m2e⟩ m.length) w := by simp [getObj, Sem.run, hb, m2o]
  simp only [Instr.lookup, Sem.run_bind, run_underlying hu, Result.andThen_ok, hg, Sem.run_pure, K2.chk, hf]
  cases m2get m k with
  | none => simp [Sem.run_bind, hz, Sem.run_pure]
  | some v => simp [Sem.run_bind, Sem.run_pure]
theorem run_mapUpdate2 [K2 P t] {xt e : TypeId} (hu : P.underlying xt = some (.map t e)) {b : Nat} {m : M2} (hb : w.heap[b]? = some (m2o m)) (k : Int × Int) (hk : m2get m k = none) (v : Value) :
    (Instr.mapUpdate xt (.map (some b)) (kv2 k.1 k.2) v).run P w = .ok () { w with heap := w.heap.setIfInBounds b (m2o (m ++ [(k, v)])) } := by
  obtain ⟨j, hj⟩ := run_findAsking (P := P) (w := w) (t := t) k m 0 0
  have hf := run_findKey_eq (P := P) (w := w) (k := t) K2.wide (kv2 k.1 k.2) (m.zipIdx.map m2e)
  rw [hj, hk] at hf
  have e : m2o (m ++ [(k, v)]) = .map ((⟨m.zipIdx.map m2e⟩ : Array MapEntry).push { key := kv2 k.1 k.2, val := v, born := m.length }) (m.length + 1) := by
    simp [m2o, List.zipIdx_append, m2e]
  have hg : (getObj b).run P w = .ok (.map ⟨m.zipIdx.map m2e⟩ m.length) w := by simp [getObj, Sem.run, hb, m2o]
  simp only [Instr.mapUpdate, Sem.run_bind, run_underlying hu, Result.andThen_ok, hg, K2.chk, hf, Option.map_none]
  rw [e]
  simp [setObj, Sem.run, hb]
  simp [m2o]
theorem St.lookR (h : St w0 w G) (k i : Nat) {b : Nat} {m : M2} (he : Has G k i (.obj b (m2o m))) [K2 P t] {xt e : TypeId} (hu : P.underlying xt = some (.map t e)) {x y : Int} (hz : ∀ w, (zeroValue e).run P w = .ok (.pointer none) w) (p : Option Addr)
    (hp : m2get m (x, y) = p.map fun a => .pointer (some a)) {K : Option Addr → Prop} (hk : K p) : ReadN P .ptr (V (Instr.lookup xt (.map (some b)) (kv2 x y) false)) w K := by
  refine ReadN.of (kd := .ptr) (x := p) ?_ hk
  rw [run_lookup2 hu (h.ob he) (x, y) (hz w), hp]
  cases p <;> rfl
theorem St.mapPut (h : St w0 w G) (k i : Nat) {b : Nat} {m : M2} (he : Has G k i (.obj b (m2o m))) [K2 P t] {xt e : TypeId} (hu : P.underlying xt = some (.map t e)) {x y : Int} {v : Value} (hn : m2get m (x, y) = none) {K : World → Prop}
    (hk : ∀ w', St w0 w' (updG G k i [.obj b (m2o (m ++ [((x, y), v)]))]) → K w') : RunU P (U (Instr.mapUpdate xt (.map (some b)) (kv2 x y) v)) w K :=
  RunU.of (run_mapUpdate2 hu (h.ob he) (x, y) hn v) (hk _ (h.setOb he _))
theorem St.newMap (h : St w0 w G) {xt : TypeId} {K : Option Nat → World → Prop} (hk : ∀ b w', St w0 w' ([.obj b (m2o [])] :: G) → K (some b) w') : RunN P .map (V (Instr.makeMap xt none)) w K :=
  RunN.of (kd := .map) (x := some w.heap.size) rfl (hk _ _ (h.newOb _))
theorem nthO_setO {α : Type} : ∀ {l : List α} {i : Nat} {x : α} (y : α), nthO l i = some x → nthO (setO l i y) i = some y
  | [], _, _, _, h => by cases h
  | _ :: _, 0, _, _, _ => rfl
  | _ :: r, i + 1, _, y, h => nthO_setO (l := r) y h
theorem has_upd : ∀ {G : Grps} {k i : Nat} {e : Ent}, Has G k i e → ∀ e' : Ent, Has (updG G k i [e']) k i e'
  | [], _, _, _, ⟨_, h, _⟩, _ => by cases h
  | g :: r, 0, i, e, ⟨g', h, h'⟩, e' => by
    simp [nthO] at h; subst h
    exact ⟨setO g i e', rfl, nthO_setO e' h'⟩
  | g :: r, k + 1, i, e, ⟨g', h, h'⟩, e' => has_upd (G := r) ⟨g', h, h'⟩ e'
theorem setO_setO {α : Type} : ∀ (l : List α) (i : Nat) (x y : α), setO (setO l i x) i y = setO l i y
  | [], _, _, _ => rfl
  | _ :: _, 0, _, _ => rfl
  | _ :: r, i + 1, x, y => by simp only [setO, setO_setO r i x y]
theorem upd_upd : ∀ {G : Grps} {k i : Nat} {e : Ent}, Has G k i e → ∀ {e1 e2 : Ent}, updG (updG G k i [e1]) k i [e2] = updG G k i [e2]
  | [], _, _, _, ⟨_, h, _⟩, _, _ => by cases h
  | g :: r, 0, i, e, _, e1, e2 => by simp only [updG, setO_setO]
  | g :: r, k + 1, i, e, ⟨g', h, h'⟩, e1, e2 => by simp only [updG]; rw [upd_upd (G := r) ⟨g', h, h'⟩]
theorem setO_self {α : Type} : ∀ {l : List α} {i : Nat} {x : α}, nthO l i = some x → setO l i x = l
  | [], _, _, h => by cases h
  | _ :: _, 0, _, h => by simp [nthO] at h; subst h; rfl
  | _ :: r, i + 1, _, h => by simp only [setO]; rw [setO_self (l := r) h]
theorem upd_self : ∀ {G : Grps} {k i : Nat} {e : Ent}, Has G k i e → updG G k i [e] = G
  | [], _, _, _, ⟨_, h, _⟩ => by cases h
  | g :: r, 0, i, e, ⟨g', h, h'⟩ => by
    simp [nthO] at h; subst h
    simp only [updG, setO_self h']
  | g :: r, k + 1, i, e, ⟨g', h, h'⟩ => by simp only [updG]; rw [upd_self (G := r) ⟨g', h, h'⟩]
/-- An array of pieces. -/
class Ars (P : Program) (t : TypeId) (n sz : outParam Nat) : Prop where
  h : ∃ e i, P.underlying t = some (.array n e) ∧ P.info? e = some i ∧ i.size = sz
theorem Ars.of {t n e sz : Nat} (h : P.underlying t = some (.array n e)) (h1 : (P.info? e).map (·.size) = some sz) : Ars P t n sz := by
  cases hi : P.info? e with
  | none => simp [hi] at h1
  | some i => exact ⟨e, i, h, hi, by simpa [hi] using h1⟩
theorem run_arrs {t n sz : Nat} [ar : Ars P t n sz] {a : Addr} {g o : Nat} (ha : a = ⟨g, o, none⟩) {k : IntKind} {i : Int} (j : Nat) (hj : i = (j : Int)) (hn : j < n) :
    (Instr.indexAt t (.pointer (some a)) (.int k i)).run P w = .ok (.pointer (some ⟨g, o + j * sz, none⟩)) w := by
  subst hj; subst ha
  obtain ⟨e, inf, hu, hi, hs⟩ := ar.h
  have h0 : (0 : Int) ≤ (j : Int) := by omega
  have h1 : (j : Int) < (n : Int) := by omega
  simp [Instr.indexAt, asIntOf, run_underlying hu, Instr.sureAddr, h0, h1, hn, sizeOf, typeInfo, hi, hs, add_lit']
theorem RunN.arrs {t n sz : Nat} [ar : Ars P t n sz] {a : Addr} {g o : Nat} (ha : a = ⟨g, o, none⟩) {k : IntKind} {i : Int} (j : Nat) (hj : i = (j : Int)) (hn : j < n) {K : Addr → World → Prop} (hk : K ⟨g, o + j * sz, none⟩ w) :
    RunN P .addr (V (Instr.indexAt t (.pointer (some a)) (.int k i))) w K := RunN.of (kd := .addr) (run_arrs ha j hj hn) hk
theorem ReadN.arrs {t n sz : Nat} [ar : Ars P t n sz] {a : Addr} {g o : Nat} (ha : a = ⟨g, o, none⟩) {k : IntKind} {i : Int} (j : Nat) (hj : i = (j : Int)) (hn : j < n) {K : Addr → Prop} (hk : K ⟨g, o + j * sz, none⟩) :
    ReadN P .addr (V (Instr.indexAt t (.pointer (some a)) (.int k i))) w K := ReadN.of (kd := .addr) (run_arrs ha j hj hn) hk
theorem run_arrLH {t n sz : Nat} [ar : Ars P t n sz] {a : Addr} {kl kh : IntKind} {l h : Int} {lo hi : Nat} (hl : l = (lo : Int)) (hh : h = (hi : Int)) (h1 : lo ≤ hi) (h2 : hi ≤ n) :
    (Instr.sliceAt t (.pointer (some a)) (some (.int kl l)) (some (.int kh h)) none).run P w = .ok (.slice (subS ⟨some a, n, n⟩ lo hi sz).a (subS ⟨some a, n, n⟩ lo hi sz).len (subS ⟨some a, n, n⟩ lo hi sz).cap) w := by
  subst hl; subst hh
  obtain ⟨e, inf, hu, hi, hs⟩ := ar.h
  have e1 : P.arrayLen t = n := by simp [Program.arrayLen, hu]
  have e2 : P.elem t = e := by simp [Program.elem, hu]
  rw [run_sliceAt_array_lh w t a (by rw [e1, e2]; exact hu) kl kh lo _ (by omega) (by omega) (by rw [e1]; omega), e1, e2]
  simp only [sizeOf, Sem.run_bind, typeInfo, hi]
  simp [hs, slicedAt, subS, hi]
  split <;> rfl
theorem run_arrH {t n sz : Nat} [ar : Ars P t n sz] {a : Addr} {kh : IntKind} {h : Int} {hi : Nat} (hh : h = (hi : Int)) (h2 : hi ≤ n) :
    (Instr.sliceAt t (.pointer (some a)) none (some (.int kh h)) none).run P w = .ok (.slice (subS ⟨some a, n, n⟩ 0 hi sz).a (subS ⟨some a, n, n⟩ 0 hi sz).len (subS ⟨some a, n, n⟩ 0 hi sz).cap) w := by
  subst hh
  obtain ⟨e, inf, hu, hi, hs⟩ := ar.h
  have e1 : P.arrayLen t = n := by simp [Program.arrayLen, hu]
  have e2 : P.elem t = e := by simp [Program.elem, hu]
  rw [run_sliceAt_array_h w t a (by rw [e1, e2]; exact hu) kh _ (by omega) (by rw [e1]; omega), e1, e2]
  simp only [sizeOf, Sem.run_bind, typeInfo, hi]
  simp [hs, slicedAt, subS, hi]
  split <;> rfl
theorem ReadN.arrLH {t n sz : Nat} [ar : Ars P t n sz] {a : Addr} {kl kh : IntKind} {l h : Int} (lo hi : Nat) (hl : l = (lo : Int)) (hh : h = (hi : Int)) (h1 : lo ≤ hi) (h2 : hi ≤ n) {K : Sl → Prop} (hk : K (subS ⟨some a, n, n⟩ lo hi sz)) :
    ReadN P .sl (V (Instr.sliceAt t (.pointer (some a)) (some (.int kl l)) (some (.int kh h)) none)) w K := ReadN.of (kd := .sl) (run_arrLH hl hh h1 h2) hk
theorem ReadN.arrH {t n sz : Nat} [ar : Ars P t n sz] {a : Addr} {kh : IntKind} {h : Int} (hi : Nat) (hh : h = (hi : Int)) (h2 : hi ≤ n) {K : Sl → Prop} (hk : K (subS ⟨some a, n, n⟩ 0 hi sz)) :
    ReadN P .sl (V (Instr.sliceAt t (.pointer (some a)) none (some (.int kh h)) none)) w K := ReadN.of (kd := .sl) (run_arrH hh h2) hk
/-- A part of a block, read as a slice of pieces. -/
theorem St.arrRd (h : St w0 w G) (k i : Nat) {b : Nat} {t : TypeId} {cs : List Value} (he : Has G k i (.cel b t cs)) {o n sz : Nat} (hfit : o + n * sz ≤ cs.length) {lo hi : Nat} (h1 : lo ≤ hi) (h2 : hi ≤ n) :
    Rd w (subS ⟨some ⟨b, o, none⟩, n, n⟩ lo hi sz) sz ((cs.drop (o + lo * sz)).take ((hi - lo) * sz)) := by
  have h0 : Rd w ⟨some ⟨b, o, none⟩, n, n⟩ sz ((cs.drop o).take (n * sz)) := by
    refine ⟨by simp; omega, .inr ⟨b, o, rfl, fun j v hj => ?_⟩, Nat.le_refl _⟩
    rw [List.getElem?_take] at hj
    split at hj
    · rw [List.getElem?_drop] at hj
      rw [(h.blk he).cell]; exact hj
    · cases hj
  have h3 := h0.subS h1 h2
  have e : hi * sz ≤ n * sz := Nat.mul_le_mul_right _ h2
  have e2 : lo * sz ≤ hi * sz := Nat.mul_le_mul_right _ h1
  rw [List.drop_take, List.drop_drop, List.take_take, Nat.min_eq_left (by rw [Nat.sub_mul]; omega)] at h3
  exact h3
/-- Copy into a part of a block. -/
theorem St.copyC (h : St w0 w G) (k i : Nat) {b : Nat} {t : TypeId} {cs : List Value} (he : Has G k i (.cel b t cs)) {e : TypeId} {sz by_ : Nat} {td ts ty : TypeId} [et : Et P td e sz by_] {e2 : TypeId} {sz2 b2 : Nat} [et2 : Et P ts e2 sz2 b2] {da : Option Addr} {dl dc : Nat} (o : Nat)
    (hda : 0 < dl → da = some ⟨b, o, none⟩) (hdl : o + dl * sz ≤ cs.length) {p : Sl} {ws : List Value} (hr : Rd w p sz ws) (h1 : ∀ v ∈ ws, v.oneCell' = true) {K : Int → World → Prop}
    (hk : ∀ w', St w0 w' (updG G k i [.cel b t (cs.take o ++ ws.take (Nat.min p.len dl * sz) ++ cs.drop (o + Nat.min p.len dl * sz))]) → K (Nat.min p.len dl : Nat) w') :
    RunN P (.int .i64) (V (Builtin.copy_ #[td, ts] ty #[.slice da dl dc, .slice p.a p.len p.cap])) w K := by
  obtain ⟨j, z, hi, hz, h2, h3, h4⟩ := et.h.hi
  have ets : (P.underlying ts).isSome = true := by simp [et2.h.ht]
  have hmin1 : Nat.min p.len dl ≤ p.len := Nat.min_le_left _ _
  have hmin2 : Nat.min p.len dl ≤ dl := Nat.min_le_right _ _
  generalize hn : Nat.min p.len dl = n at *
  have hgo : goInt n = (.int .i64 (n : Int) : Value) := rfl
  by_cases h0 : n = 0
  · subst h0
    refine RunN.of (kd := .int .i64) (x := ((0 : Nat) : Int)) (w' := w) ?_ (hk w ?_)
    · have hfc : (Builtin.firstCells sz 0 (.slice p.a p.len p.cap)).run P w = .ok #[] w := by
        cases p.a <;> simp [Builtin.firstCells, loadCells, loadCellsFrom]
      cases da <;> simp [Builtin.copy_, run_underlying et.h.ht, Builtin.lenOf, sizeOf, typeInfo, hi, h2, hn, hfc, storeCells] <;> rfl
    · simp only [Nat.zero_mul, List.take_zero, List.append_nil, Nat.add_zero, List.take_append_drop]
      exact h.change1 he (Upd.refl _ _) (h.ent he) fun j hj => .inl hj
  · have hpos : 0 < n * sz := Nat.mul_pos (by omega) et.pos
    obtain ⟨b', o', ha, hl⟩ := hr.loads (P := P) (n := n) (by omega) hpos
    have hlw : (ws.take (n * sz)).length = n * sz := by
      have h5 := hr.1
      have h6 : n * sz ≤ p.len * sz := Nat.mul_le_mul_right _ hmin1
      simp; omega
    have hfit : n * sz ≤ dl * sz := Nat.mul_le_mul_right _ hmin2
    have h1' : ∀ v ∈ ws.take (n * sz), v.oneCell' = true := fun v hv => h1 v (List.mem_of_mem_take hv)
    have hst := Blk.store (P := P) (h.blk he) (o := o) (news := ws.take (n * sz)) (by omega) h1'
    rw [hlw] at hst
    refine RunN.of (kd := .int .i64) (x := ((n : Nat) : Int)) ?_ (hk _ (h.change1 he (Upd.setRow _ _ _ rfl) ⟨⟨(h.ent he).1.1, (h.blk he).row _⟩, fun u hu => ?_⟩ fun j hj => .inl hj))
    · rw [hda (by omega), ha]
      simp [Builtin.copy_, run_underlying et.h.ht, Builtin.lenOf, Builtin.firstCells, sizeOf, typeInfo, hi, h2, hn, hl, hst, hgo]
      rfl
    · simp only [Ent.vals] at hu
      rcases List.mem_append.1 hu with hu | hu
      · rcases List.mem_append.1 hu with hu | hu
        · exact h.one1 he u (List.mem_of_mem_take hu)
        · exact h1' u hu
      · exact h.one1 he u (List.mem_of_mem_drop hu)
theorem run_subLHM {t e : TypeId} {sz by_ : Nat} [et : Et P t e sz by_] {s : Sl} {k kh km : IntKind} {l h m : Int} {lo hi mx : Nat} (hl : l = (lo : Int)) (hh : h = (hi : Int)) (hm : m = (mx : Int)) (h1 : lo ≤ hi) (h2 : hi ≤ mx) (h3 : mx ≤ s.cap) :
    ∃ q : Sl, (Instr.sliceAt t (.slice s.a s.len s.cap) (some (.int k l)) (some (.int kh h)) (some (.int km m))).run P w = .ok (.slice q.a q.len q.cap) w := by
  subst hl; subst hh; subst hm
  rw [run_sliceAt_slice w t _ _ _ _ (elem_of et.h), run_slice_lhm w t s.a s.len s.cap (elem_of et.h) k kh km _ _ _ (by omega) (by omega) (by omega) (by omega), run_size et.h]
  exact ⟨⟨_, _, _⟩, rfl⟩
end
end Go.Fw
