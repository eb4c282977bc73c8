/- Variables and rows in memory: what is loaded, stored, copied, cleared. -/
import Derived.Test.YtodgnpmljdopiaaFwN
namespace Go.Fw
open Go Go.RowKit
set_option linter.unusedVariables false

/-- A block of cells. -/
def Blk (w : World) (b : Nat) (t : TypeId) (cs : List Value) : Prop := w.heap[b]? = some (.cells ⟨cs⟩ t (0, 0))
theorem Blk.cell {w : World} {b : Nat} {t : TypeId} {cs : List Value} (h : Blk w b t cs) (i : Nat) : w.cell? ⟨b, i, none⟩ = cs[i]? := by
  rw [cell_of_row w b _ ⟨cs⟩ t (0, 0) h]; simp
theorem Blk.lt {w : World} {b : Nat} {t : TypeId} {cs : List Value} (h : Blk w b t cs) : b < w.heap.size := lt_of_obj h
theorem Blk.frozen {w : World} {b : Nat} {t : TypeId} {cs : List Value} (h : Blk w b t cs) (i : Nat) : w.frozen? ⟨b, i, none⟩ = false := by
  unfold World.frozen?
  simp only [show w.heap[(⟨b, i, none⟩ : Addr).block]? = _ from h]; simp
theorem Blk.upd {w w' : World} {S : Nat → Prop} {b : Nat} {t : TypeId} {cs : List Value} (h : Blk w b t cs) (hu : Upd w w' S) (hs : ¬ S b) : Blk w' b t cs := hu.obj h hs
theorem Blk.new (w : World) (t : TypeId) (cs : List Value) : Blk (w.alloc (.cells ⟨cs⟩ t)) w.heap.size t cs := heap_alloc_new w _
theorem Blk.set {w : World} {b : Nat} {t : TypeId} {cs : List Value} (h : Blk w b t cs) (i : Nat) (v : Value) : Blk (w.setCell ⟨b, i, none⟩ v) b t (cs.set i v) := by
  unfold Blk World.setCell
  have hb : w.heap[b]? = some (.cells ⟨cs⟩ t (0, 0)) := h
  simp only [Array.getElem?_modify, if_pos, hb, Option.map_some, Option.isSome_none, Bool.false_eq_true, if_false]
  by_cases hi : i < cs.length
  · simp [Array.setIfInBounds, hi]
  · rw [List.set_eq_of_length_le (by omega)]
    simp [Array.setIfInBounds, hi]
theorem Blk.row {w : World} {b : Nat} {t : TypeId} {cs : List Value} (h : Blk w b t cs) (ds : List Value) : Blk (w.setRow b ds.toArray) b t ds := setRow_heap w b _ _ t _ h

section
variable {P : Program} {w : World}
def aggB (P : Program) (t : TypeId) (n : Nat) : Bool :=
  match P.underlying t with
  | some (.struct _) => (match P.info? t with | some i => Nat.beq i.size n | none => false)
  | some (.array _ _) => (match P.info? t with | some i => Nat.beq i.size n | none => false)
  | _ => false
theorem aggB_spec {t : TypeId} {n : Nat} (h : aggB P t n = true) : ((isAgg t).run P w = .ok true w) ∧ (sizeOf t).run P w = .ok n w := by
  unfold aggB at h
  have key : ∀ i, P.info? t = some i → Nat.beq i.size n = true → (sizeOf t).run P w = .ok n w := by
    intro i hi hn
    have := Nat.eq_of_beq_eq_true hn
    simp [sizeOf, typeInfo, hi, this]
  split at h
  · rename_i fs hu
    split at h
    · rename_i i hi
      exact ⟨by simp [isAgg, run_underlying hu], key i hi h⟩
    · cases h
  · rename_i m e hu
    split at h
    · rename_i i hi
      exact ⟨by simp [isAgg, run_underlying hu], key i hi h⟩
    · cases h
  · cases h
theorem run_loadAgg {t : TypeId} {n : Nat} (ht : aggB P t n = true) {b o : Nat} {cs : List Value} (hn : cs.length = n) (hc : ∀ i v, cs[i]? = some v → w.cell? ⟨b, o + i, none⟩ = some v) :
    (Instr.loadAt t (.pointer (some ⟨b, o, none⟩))).run P w = .ok (.agg ⟨cs⟩) w := by
  obtain ⟨h1, h2⟩ := aggB_spec (w := w) ht
  have hl := run_loadCells_list (P := P) w ⟨b, o, none⟩ cs (fun j u hu => by rw [add_lit']; exact hc j u hu)
  rw [hn] at hl
  simp [Instr.loadAt, Instr.sureAddr, loadVar, h1, h2, hl]
theorem Blk.load {t t' : TypeId} {n : Nat} (ht : aggB P t n = true) {b : Nat} {cs : List Value} (h : Blk w b t' cs) (hn : cs.length = n) : (Instr.loadAt t (.pointer (some ⟨b, 0, none⟩))).run P w = .ok (.agg ⟨cs⟩) w :=
  run_loadAgg ht hn fun i v hv => by rw [Nat.zero_add, h.cell]; exact hv
theorem Rd.load {t : TypeId} {n : Nat} (ht : aggB P t n = true) {s : Sl} {vs : List Value} (h : Rd w s n vs) {b o : Nat} (ha : s.a = some ⟨b, o, none⟩) {i : Nat} (hi : i < s.len) :
    (Instr.loadAt t (.pointer (some ⟨b, o + i * n, none⟩))).run P w = .ok (.agg ⟨(vs.drop (i * n)).take n⟩) w := by
  have hle : (i + 1) * n ≤ s.len * n := Nat.mul_le_mul_right _ hi
  rw [Nat.add_mul, Nat.one_mul] at hle
  have hl := h.1
  refine run_loadAgg ht (by simp; omega) fun j v hv => ?_
  rw [List.getElem?_take] at hv
  split at hv
  · rw [List.getElem?_drop] at hv
    rcases h.2.1 with h0 | ⟨b', o', ha', hc⟩
    · subst h0; simp at hv
    · rw [ha] at ha'; cases ha'
      rw [Nat.add_assoc]; exact hc _ v hv
  · cases hv

theorem run_storAgg {t : TypeId} {n : Nat} (ht : aggB P t n = true) {b o : Nat} {cs : List Value} (hn : cs.length = n) {w' : World} (hs : (storeCells ⟨b, o, none⟩ cs 0).run P w = .ok () w') :
    (Instr.storeAt t (.pointer (some ⟨b, o, none⟩)) (.agg ⟨cs⟩)).run P w = .ok () w' := by
  obtain ⟨h1, h2⟩ := aggB_spec (w := w) ht
  simp [Instr.storeAt, Instr.sureAddr, storeVar, Value.cells, h2, hn, hs]
theorem Blk.store {b : Nat} {t : TypeId} {cs : List Value} (h : Blk w b t cs) {o : Nat} {news : List Value} (hfit : o + news.length ≤ cs.length) (h1 : ∀ v ∈ news, v.oneCell' = true) :
    (storeCells ⟨b, o, none⟩ news 0).run P w = .ok () (w.setRow b (cs.take o ++ news ++ cs.drop (o + news.length)).toArray) := by
  have := run_storeCells_at P b o t news 0 ⟨cs⟩ w h (by simpa using hfit) h1
  simpa using this
/-- Store a whole variable. -/
theorem Blk.stor {t t' : TypeId} {n : Nat} (ht : aggB P t n = true) {b : Nat} {cs ds : List Value} (h : Blk w b t' cs) (hc : cs.length = n) (hd : ds.length = n) (h1 : ∀ v ∈ ds, v.oneCell' = true) :
    (Instr.storeAt t (.pointer (some ⟨b, 0, none⟩)) (.agg ⟨ds⟩)).run P w = .ok () (w.setRow b ds.toArray) := by
  have := Blk.store (P := P) h (o := 0) (news := ds) (by omega) h1
  rw [List.take_zero, List.nil_append, Nat.zero_add, List.drop_of_length_le (by omega), List.append_nil] at this
  exact run_storAgg ht hd this

/-- Some cells of an owned row are written. -/
theorem Ow.write {base : Nat} {E : TypeId} {sz : Nat} {s : Sl} {vs : List Value} (h : Ow w base E sz s vs) {i : Nat} {news : List Value} (hi : i + news.length ≤ vs.length) (hne : news ≠ []) (h1 : ∀ v ∈ news, v.oneCell' = true) :
    ∃ g o, s.a = some ⟨g, o, none⟩ ∧ s.blk = some g ∧ ∃ w', (storeCells ⟨g, o + i, none⟩ news 0).run P w = .ok () w' ∧ Ow w' base E sz s (vs.take i ++ news ++ vs.drop (i + news.length)) ∧ Upd w w' (fun k => k = g) := by
  have hl := h.1
  rcases h.2 with rfl | ⟨g, o, cs, ha, hb, hg, h2, h3, h4, h5⟩
  · have hv : vs.length = 0 := by rw [hl]; simp
    have : news.length = 0 := by omega
    exact absurd (List.eq_nil_of_length_eq_zero this) hne
  have hle : s.len * sz ≤ s.cap * sz := Nat.mul_le_mul_right _ h2
  have hst := Blk.store (P := P) (w := w) (b := g) (t := E) (cs := cs) hg (o := o + i) (news := news) (by omega) h1
  refine ⟨g, o, ha, by simp [Sl.blk, ha], _, hst, ⟨by simp; omega, .inr ⟨g, o, _, ha, hb, setRow_heap w g ⟨cs⟩ _ E _ hg, h2, h3, by simp; omega, ?_⟩⟩, Upd.setRow _ _ _ rfl⟩
  have hlen1 : (cs.take (o + i)).length = o + i := by simp; omega
  rw [List.append_assoc, List.drop_append_of_le_length (by rw [hlen1]; omega), List.drop_take]
  have e1 : o + i - o = i := by omega
  rw [e1]
  have e2 : (cs.drop o).take i = vs.take i := by rw [← h5, List.take_take]; congr 1; omega
  rw [e2]
  have hlen2 : (vs.take i).length = i := by simp; omega
  rw [List.take_append, hlen2, List.take_of_length_le (by omega), List.append_assoc]
  congr 1
  rw [List.take_append, List.take_of_length_le (by omega)]
  congr 1
  rw [← h5, List.drop_take, List.drop_drop]
  congr 1
  · omega
  · congr 1; omega

/-- s[l:h] -/
theorem run_subLH {t e : TypeId} {sz by_ : Nat} (et : ET P t e sz by_) {s : Sl} {kl kh : IntKind} {l h : Int} (h0 : 0 ≤ l) (h1 : l ≤ h) (h2 : h ≤ s.cap) :
    (Instr.sliceAt t (.slice s.a s.len s.cap) (some (.int kl l)) (some (.int kh h)) none).run P w = .ok (.slice (if s.cap = l.toNat then s.a else s.a.map (·.add (l.toNat * sz))) (h.toNat - l.toNat) (s.cap - l.toNat)) w := by
  rw [run_sliceAt_slice w t _ _ _ _ (elem_of et), run_slice_lh w t s.a s.len s.cap (elem_of et) kl kh l h h0 h1 h2, run_size et]
  rfl
theorem run_subL {t e : TypeId} {sz by_ : Nat} (et : ET P t e sz by_) {s : Sl} {k : IntKind} {l : Int} (h0 : 0 ≤ l) (h2 : l ≤ s.len) :
    (Instr.sliceAt t (.slice s.a s.len s.cap) (some (.int k l)) none none).run P w = .ok (.slice (if s.cap = l.toNat then s.a else s.a.map (·.add (l.toNat * sz))) (s.len - l.toNat) (s.cap - l.toNat)) w := by
  rw [run_sliceAt_slice w t _ _ _ _ (elem_of et), run_slice_l w t s.a s.len s.cap (elem_of et) k l h0 h2, run_size et]
  rfl
theorem run_subH {t e : TypeId} {sz by_ : Nat} (et : ET P t e sz by_) {s : Sl} {k : IntKind} {h : Int} (h0 : 0 ≤ h) (h2 : h ≤ s.cap) :
    (Instr.sliceAt t (.slice s.a s.len s.cap) none (some (.int k h)) none).run P w = .ok (.slice (if s.cap = 0 then s.a else s.a.map (·.add (0 * sz))) h.toNat s.cap) w := by
  rw [run_sliceAt_slice w t _ _ _ _ (elem_of et), run_slice_h w t s.a s.len s.cap (elem_of et) k h h0 h2, run_size et]
  rfl

theorem Rd.loads {sz : Nat} {s : Sl} {vs : List Value} (h : Rd w s sz vs) {n : Nat} (hn : n ≤ s.len) (hne : 0 < n * sz) : ∃ b o, s.a = some ⟨b, o, none⟩ ∧ (loadCells ⟨b, o, none⟩ (n * sz)).run P w = .ok (vs.take (n * sz)).toArray w := by
  have hle : n * sz ≤ s.len * sz := Nat.mul_le_mul_right _ hn
  have hl := h.1
  rcases h.2.1 with h0 | ⟨b, o, ha, hc⟩
  · subst h0; simp at hl; omega
  · refine ⟨b, o, ha, ?_⟩
    have hlen : (vs.take (n * sz)).length = n * sz := by simp; omega
    have := run_loadCells_list (P := P) w ⟨b, o, none⟩ (vs.take (n * sz)) (fun j u hu => by
      rw [add_lit']
      rw [List.getElem?_take] at hu
      split at hu
      · exact hc j u hu
      · cases hu)
    rw [hlen] at this; exact this

/-- copy, into a part of an owned row, of whatever may be read, be it of the same row. -/
theorem run_copyOw {base : Nat} {t ts ty e : TypeId} {sz by_ : Nat} (et : ET P t e sz by_) (ets : (P.underlying ts).isSome = true) (hsz : 0 < sz) {s : Sl} {vs : List Value} (ho : Ow w base e sz s vs) {i dl dc : Nat} {da : Option Addr}
    (hda : ∀ g o, s.a = some ⟨g, o, none⟩ → 0 < dl → da = some ⟨g, o + i * sz, none⟩) (hdl : i + dl ≤ s.len) {src : Sl} {ws : List Value} (hr : Rd w src sz ws) (h1 : ∀ v ∈ ws, v.oneCell' = true) :
    ∃ w', (Builtin.copy_ #[t, ts] ty #[.slice da dl dc, .slice src.a src.len src.cap]).run P w = .ok (.int .i64 (Nat.min src.len dl : Nat)) w' ∧
      Ow w' base e sz s (vs.take (i * sz) ++ ws.take (Nat.min src.len dl * sz) ++ vs.drop ((i + Nat.min src.len dl) * sz)) ∧ Upd w w' (fun k => s.blk = some k) := by
  obtain ⟨j, z, hi, hz, h2, h3, h4⟩ := et.hi
  have hmin1 : Nat.min src.len dl ≤ src.len := Nat.min_le_left _ _
  have hmin2 : Nat.min src.len dl ≤ dl := Nat.min_le_right _ _
  generalize hn : Nat.min src.len dl = n at *
  have hgo : goInt n = (.int .i64 (n : Int) : Value) := rfl
  by_cases h0 : n = 0
  · subst h0
    refine ⟨w, ?_, ?_, Upd.refl _ _⟩
    · have hfc : (Builtin.firstCells sz 0 (.slice src.a src.len src.cap)).run P w = .ok #[] w := by
        cases src.a <;> simp [Builtin.firstCells, loadCells, loadCellsFrom]
      cases da <;> simp [Builtin.copy_, run_underlying et.ht, Builtin.lenOf, sizeOf, typeInfo, hi, h2, hn, hfc, storeCells] <;> rfl
    · simp only [Nat.zero_mul, List.take_zero, List.append_nil, Nat.add_zero, List.take_append_drop]; exact ho
  · have hpos : 0 < n * sz := Nat.mul_pos (by omega) hsz
    obtain ⟨b, o, ha, hl⟩ := hr.loads (P := P) (n := n) (by omega) hpos
    have hlw : (ws.take (n * sz)).length = n * sz := by
      have h5 := hr.1
      have h6 : n * sz ≤ src.len * sz := Nat.mul_le_mul_right _ hmin1
      simp; omega
    have hlv := ho.1
    have hfit : (i + n) * sz ≤ s.len * sz := Nat.mul_le_mul_right _ (by omega)
    rw [Nat.add_mul] at hfit
    obtain ⟨g, o', hsa, hblk, w', hst, how, hup⟩ := ho.write (P := P) (i := i * sz) (news := ws.take (n * sz)) (by omega) (by intro e; rw [e] at hlw; simp at hlw; omega) (fun v hv => h1 v (List.mem_of_mem_take hv))
    have hd := hda g o' hsa (by omega)
    refine ⟨w', ?_, ?_, hup.mono fun k _ hk => by rw [hblk, hk]⟩
    · rw [hd, ha]
      simp [Builtin.copy_, run_underlying et.ht, Builtin.lenOf, Builtin.firstCells, sizeOf, typeInfo, hi, h2, hn, hl, hst, hgo]
    · rw [hlw, ← Nat.add_mul] at how; exact how

/-- clear, of the end of an owned row. -/
theorem run_clearOw {base : Nat} {t ty e : TypeId} {sz by_ : Nat} (et : ET P t e sz by_) {s : Sl} {vs : List Value} (ho : Ow w base e sz s vs) {i n c : Nat} {a : Option Addr} {zs : List Value} (hz : (do pure (Builtin.zeroCells (← zeroValue e).cells n).toList : Sem (List Value)).run P w = .ok zs w)
    (hzl : zs.length = n * sz) (hz1 : ∀ v ∈ zs, v.oneCell' = true) (hn : 0 < n * sz) (ha : ∀ g o, s.a = some ⟨g, o, none⟩ → a = some ⟨g, o + i * sz, none⟩) (hfit : i + n ≤ s.len) :
    ∃ w', (Builtin.clear_ #[t] ty #[.slice a n c]).run P w = .ok (.tuple #[]) w' ∧ Ow w' base e sz s (vs.take (i * sz) ++ zs ++ vs.drop ((i + n) * sz)) ∧ Upd w w' (fun k => s.blk = some k) := by
  have hlv := ho.1
  have hfit' : (i + n) * sz ≤ s.len * sz := Nat.mul_le_mul_right _ hfit
  rw [Nat.add_mul] at hfit'
  obtain ⟨g, o', hsa, hblk, w', hst, how, hup⟩ := ho.write (P := P) (i := i * sz) (news := zs) (by omega) (by intro e; rw [e] at hzl; simp at hzl; omega) hz1
  have hd := ha g o' hsa
  refine ⟨w', ?_, ?_, hup.mono fun k _ hk => by rw [hblk, hk]⟩
  · rw [hd]
    have hn0 : n ≠ 0 := by intro e; subst e; simp at hn
    obtain ⟨m, rfl⟩ : ∃ m, n = m + 1 := ⟨n - 1, by omega⟩
    simp only [Sem.run_bind] at hz
    cases hq : (zeroValue e).run P w with
    | ok v w1 =>
      rw [hq] at hz
      simp at hz
      obtain ⟨hz, rfl⟩ := hz
      simp [Builtin.clear_, run_underlying et.ht, hq, hz, hst]
    | _ => rw [hq] at hz; simp at hz
  · rw [hzl, ← Nat.add_mul] at how; exact how
/-- A shorter view of an owned row, from its beginning. -/
theorem Ow.shorter {base : Nat} {E : TypeId} {sz : Nat} {s : Sl} {vs : List Value} (h : Ow w base E sz s vs) {n : Nat} (hn : n ≤ s.len) {a : Option Addr} (ha : a = s.a) : Ow w base E sz ⟨a, n, s.cap⟩ (vs.take (n * sz)) := by
  subst ha
  have hle : n * sz ≤ s.len * sz := Nat.mul_le_mul_right _ hn
  have hl := h.1
  refine ⟨by simp; omega, ?_⟩
  rcases h.2 with rfl | ⟨g, o, cs, ha, hb, hg, h2, h3, h4, h5⟩
  · left; simp at hn; subst hn; rfl
  · right
    refine ⟨g, o, cs, ha, hb, hg, by dsimp only; omega, h3, h4, ?_⟩
    rw [← h5, List.take_take]; congr 1; dsimp only; omega

/-! ### in continuation style -/
theorem RunU.storB {t t' : TypeId} (ht : scB P t = true) {b i : Nat} {cs : List Value} (h : Blk w b t' cs) (hi : i < cs.length) {v : Value} (hv : v.oneCell' = true) {K : World → Prop} (hk : ∀ w', Blk w' b t' (cs.set i v) → Upd w w' (fun k => k = b) → K w') :
    RunU P (U (Instr.storeAt t (.pointer (some ⟨b, i, none⟩)) v)) w K :=
  RunU.stor ht hv (by rw [h.cell, List.getElem?_eq_getElem hi]) (h.frozen i) (hk _ (h.set i v) (Upd.setCell _ _ _ rfl))
theorem RunU.storA {t t' : TypeId} {n : Nat} (ht : aggB P t n = true) {b : Nat} {cs ds : List Value} (h : Blk w b t' cs) (hc : cs.length = n) (hd : ds.length = n) (h1 : ∀ v ∈ ds, v.oneCell' = true) {K : World → Prop} (hk : ∀ w', Blk w' b t' ds → Upd w w' (fun k => k = b) → K w') :
    RunU P (U (Instr.storeAt t (.pointer (some ⟨b, 0, none⟩)) (.agg ⟨ds⟩))) w K :=
  RunU.of (h.stor ht hc hd h1) (hk _ (h.row ds) (Upd.setRow _ _ _ rfl))
theorem RunN.loadB {t t' : TypeId} (ht : scB P t = true) {kd : Kd} {b i : Nat} {cs : List Value} (h : Blk w b t' cs) {x : kd.T} (hi : cs[i]? = some (kd.val x)) {K : kd.T → World → Prop} (hk : K x w) : RunN P kd (V (Instr.loadAt t (.pointer (some ⟨b, i, none⟩)))) w K :=
  RunN.load ht (by rw [h.cell]; exact hi) hk
theorem ReadN.loadB {t t' : TypeId} (ht : scB P t = true) {kd : Kd} {b i : Nat} {cs : List Value} (h : Blk w b t' cs) {x : kd.T} (hi : cs[i]? = some (kd.val x)) {K : kd.T → Prop} (hk : K x) : ReadN P kd (V (Instr.loadAt t (.pointer (some ⟨b, i, none⟩)))) w K :=
  ReadN.load ht (by rw [h.cell]; exact hi) hk
theorem RunN.loadA {t t' : TypeId} {n : Nat} (ht : aggB P t n = true) {kd : Kd} {b : Nat} {cs : List Value} (h : Blk w b t' cs) (hn : cs.length = n) {x : kd.T} (hx : kd.val x = .agg ⟨cs⟩) {K : kd.T → World → Prop} (hk : K x w) : RunN P kd (V (Instr.loadAt t (.pointer (some ⟨b, 0, none⟩)))) w K :=
  RunN.of (by rw [hx]; exact h.load ht hn) hk
theorem ReadN.loadA {t t' : TypeId} {n : Nat} (ht : aggB P t n = true) {kd : Kd} {b : Nat} {cs : List Value} (h : Blk w b t' cs) (hn : cs.length = n) {x : kd.T} (hx : kd.val x = .agg ⟨cs⟩) {K : kd.T → Prop} (hk : K x) : ReadN P kd (V (Instr.loadAt t (.pointer (some ⟨b, 0, none⟩)))) w K :=
  ReadN.of (by rw [hx]; exact h.load ht hn) hk
theorem StillV.loadB {t t' : TypeId} (ht : scB P t = true) {b i : Nat} {cs : List Value} (h : Blk w b t' cs) {v : Value} (hi : cs[i]? = some v) : StillV P (V (Instr.loadAt t (.pointer (some ⟨b, i, none⟩)))) v w :=
  StillV.load ht (by rw [h.cell]; exact hi)
theorem StillV.loadA {t t' : TypeId} {n : Nat} (ht : aggB P t n = true) {b : Nat} {cs : List Value} (h : Blk w b t' cs) (hn : cs.length = n) : StillV P (V (Instr.loadAt t (.pointer (some ⟨b, 0, none⟩)))) (.agg ⟨cs⟩) w :=
  StillV.of (h.load ht hn)
/-- A new variable, whose law is known by computation. -/
theorem RunN.newB {s : Sem Value} {cs : List Value} {t : TypeId} (hr : s.run P w = .ok (.pointer (some ⟨w.heap.size, 0, none⟩)) (w.alloc (.cells ⟨cs⟩ t))) {K : Addr → World → Prop}
    (hk : ∀ w', Blk w' w.heap.size t cs → Upd w w' nobody → w'.heap.size = w.heap.size + 1 → K ⟨w.heap.size, 0, none⟩ w') : RunN P .addr (V s) w K :=
  RunN.of (kd := .addr) (x := ⟨w.heap.size, 0, none⟩) hr (hk _ (Blk.new _ _ _) (Upd.alloc _ _ _) (by simp))
/-- A new literal row. -/
theorem RunN.newS {base : Nat} {s : Sem Value} {cs : List Value} {t : TypeId} {n sz : Nat} (hr : s.run P w = .ok (.slice (some ⟨w.heap.size, 0, none⟩) n n) (w.alloc (.cells ⟨cs⟩ t))) (hb : base ≤ w.heap.size) (hn : n ≤ maxLen) (hl : cs.length = n * sz) {K : Sl → World → Prop}
    (hk : ∀ w', Ow w' base t sz ⟨some ⟨w.heap.size, 0, none⟩, n, n⟩ cs → Upd w w' nobody → w'.heap.size = w.heap.size + 1 → K ⟨some ⟨w.heap.size, 0, none⟩, n, n⟩ w') : RunN P .sl (V s) w K := by
  refine RunN.of (kd := .sl) (x := ⟨some ⟨w.heap.size, 0, none⟩, n, n⟩) hr (hk _ ?_ (Upd.alloc _ _ _) (by simp))
  have := Ow.lit (w := w) (e := t) hb (Nat.le_refl n) hn hl
  rwa [List.take_of_length_le (by omega)] at this
/-- Onto what is owned, or nil. -/
theorem RunN.appO {base : Nat} {t tx ty e : TypeId} {sz by_ : Nat} (et : ET P t e sz by_) (etx : ∃ e' , ET P tx e' sz by_) (hsz : 0 < sz) {s : Sl} {xs : List Value} (ho : Ow w base e sz s xs) {p : Sl} {news : List Value} (hr : Rd w p sz news) (h1 : ∀ v ∈ news, v.oneCell' = true)
    (hbase : base ≤ w.heap.size) (h63 : s.len + p.len ≤ maxLen) (hfit : (s.len + p.len) * by_ ≤ 140737488355328) {K : Sl → World → Prop}
    (h : ∀ s' w', s'.len = s.len + p.len → Ow w' base e sz s' (xs ++ news) → Upd w w' (fun k => s.blk = some k) → (s'.blk = s.blk ∨ ∃ g, s'.blk = some g ∧ w.heap.size ≤ g ∧ g < w'.heap.size) → K s' w') :
    RunN P .sl (V (Builtin.append_ #[t, tx] ty #[.slice s.a s.len s.cap, .slice p.a p.len p.cap])) w K := by
  obtain ⟨e', etx⟩ := etx
  exact RunN.app et hsz ho (Src.ofRd etx hsz hr h1) hbase h63 hfit h
/-- A copy: onto nil. -/
theorem RunN.appNil {t tx ty e : TypeId} {sz by_ : Nat} (et : ET P t e sz by_) (etx : ∃ e' , ET P tx e' sz by_) (hsz : 0 < sz) {p : Sl} {news : List Value} (hr : Rd w p sz news) (h1 : ∀ v ∈ news, v.oneCell' = true)
    (h63 : p.len ≤ maxLen) (hfit : p.len * by_ ≤ 140737488355328) {K : Sl → World → Prop}
    (h : ∀ s' w', s'.len = p.len → Ow w' w.heap.size e sz s' news → Upd w w' nobody → K s' w') :
    RunN P .sl (V (Builtin.append_ #[t, tx] ty #[.slice none 0 0, .slice p.a p.len p.cap])) w K :=
  RunN.appO et etx hsz (s := ⟨none, 0, 0⟩) (Ow.nil w w.heap.size e sz) hr h1 (Nat.le_refl _) (by dsimp only; omega) (by dsimp only; rw [Nat.zero_add]; exact hfit)
    fun s' w' h1 h2 h3 _ => h s' w' (by dsimp only at h1; omega) (by rwa [List.nil_append] at h2) (h3.mono fun i _ h => by simp [Sl.blk] at h)
theorem Upd.fresh {a b c : World} {S : Nat → Prop} (h : Upd a b nobody) (k : Upd b c S) (hS : ∀ i, S i → a.heap.size ≤ i) : Upd a c nobody := h.trans' k fun i hi hlt => absurd (hS i hi) (by omega)
theorem Upd.none {a b : World} (h : Upd a b nobody) (S : Nat → Prop) : Upd a b S := h.mono fun _ _ h => h.elim
end
end Go.Fw
