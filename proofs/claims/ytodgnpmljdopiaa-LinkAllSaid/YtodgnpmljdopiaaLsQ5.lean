/- Words and steps, part 5: Rows of pieces that grow. Rows of values that are laid out in cells. The link in memory: types. The link in memory. The link in memory: what is handed in, what is told. The link in memory: Under. The link in memory: Out. The link in memory: what fits, what is acknowledged. The link in memory: Take. -/
import Derived.Test.YtodgnpmljdopiaaLsQ4
/- Rows of pieces that grow. -/
set_option linter.unusedVariables false
set_option linter.unusedSimpArgs false
namespace Go.Fw
open Go Go.RowKit
variable {w0 w : World} {G : Grps}
/-- A row that grows from its old one: it holds it as its beginning, or the old one is left. -/
def GrowS (E : TypeId) (sz : Nat) (w0 w : World) (q : Sl) (v : List Value) (d : Sl) (n : Nat) (e : List Value) (G : Grps) : Prop :=
  v.length = q.len * sz ∧ e.length = n * sz ∧ d.len = q.len + n ∧ (d.a = q.a ∧ d.cap = q.cap ∧ St w0 w ([.row E sz d (v ++ e)] :: G) ∨ St w0 w ([.row E sz d (v ++ e), .row E sz q v] :: G))
theorem GrowS.start {E : TypeId} {sz : Nat} {q : Sl} {v : List Value} {G : Grps} (h : St w0 w ([.row E sz q v] :: G)) : GrowS E sz w0 w q v q 0 [] G := by
  have hl := (h.rd (k := 0) (i := 0) ⟨_, rfl, rfl⟩).1
  exact ⟨hl, by simp, rfl, .inl ⟨rfl, rfl, by simpa using h⟩⟩
theorem GrowS.app {P : Program} {t E sz by_ : Nat} [et : Et P t E sz by_] (x : List Value) (hxl : x.length = sz) (hx : x.all Value.oneCell' = true) {s0 : Sem Value} (hbs : ∀ (w : World), s0.run P w = .ok (.slice (some ⟨w.heap.size, 0, none⟩) 1 1) (w.alloc (.cells ⟨x⟩ E)))
    {q : Sl} {v : List Value} {d : Sl} {n : Nat} {e : List Value} {G : Grps} (hg : GrowS E sz w0 w q v d n e G) (hl : (q.len + n + 1) * by_ ≤ 140737488355328) (hl2 : q.len + n ≤ 1048576000) {ty : TypeId} {K : Sl → World → Prop}
    (hk : ∀ d' w', GrowS E sz w0 w' q v d' (n + 1) (e ++ x) G → K d' w') :
    RunN P .sl (V s0) w fun u w =>
      RunN P .sl (V (Builtin.append_ #[t, t] ty #[.slice d.a d.len d.cap, .slice u.a u.len u.cap])) w fun u' w => K u' w := by
  obtain ⟨hql, hel, hdl, hc⟩ := hg
  have hone : ∀ y ∈ x, y.oneCell' = true := List.all_eq_true.1 hx
  have ebb : (v ++ e) ++ x = v ++ (e ++ x) := by rw [List.append_assoc]
  have hel2 : (e ++ x).length = (n + 1) * sz := by rw [List.length_append, hel, hxl, Nat.add_mul, Nat.one_mul]
  rcases hc with ⟨ha, hcap, h⟩ | h
  · refine h.newS sz (hbs _) rfl (by rw [Nat.one_mul]; exact hxl) hx ?_
    intro u w hl1 hc1 _ h
    have hru := h.rd (k := 0) (i := 0) ⟨_, rfl, rfl⟩
    refine h.appKeep 1 0 ⟨_, rfl, rfl⟩ hru hone (by simp only [maxLen]; omega) (by rw [hdl, hl1]; exact hl) ?_
    intro d' w hl' hd
    rw [ebb] at hd
    refine hk d' w ⟨hql, hel2, by omega, ?_⟩
    rcases hd with ⟨ha', hc', h⟩ | h
    · dsimp only [updG, setO] at h
      exact .inl ⟨ha'.trans ha, hc'.trans hcap, h.drop 0⟩
    · dsimp only [updG, delO, List.append_nil] at h
      have h := h.drop 0
      dsimp only [delO] at h
      have hrd := h.preR (k := 0) (i := 1) ⟨_, rfl, rfl⟩ (hi := q.len) (by omega)
      dsimp only [updG, setO] at hrd
      right
      have e1 : (v ++ e).take (q.len * sz) = v := by rw [← hql, List.take_append_of_le_length (by simp), List.take_of_length_le (by simp)]
      have e2 : subS d 0 q.len sz = q := by rw [subS_zero, ha, hcap]
      rw [e1, e2] at hrd
      exact hrd
  · refine h.newS sz (hbs _) rfl (by rw [Nat.one_mul]; exact hxl) hx ?_
    intro u w hl1 hc1 _ h
    have hru := h.rd (k := 0) (i := 0) ⟨_, rfl, rfl⟩
    refine h.app 1 0 ⟨_, rfl, rfl⟩ hru hone (by simp only [maxLen]; omega) (by rw [hdl, hl1]; exact hl) ?_
    intro d' w hl' h
    dsimp only [updG, setO] at h
    rw [ebb] at h
    exact hk d' w ⟨hql, hel2, by omega, .inr (h.drop 0)⟩
/-- What it grew from is there still. -/
theorem GrowS.done {E : TypeId} {sz : Nat} {q : Sl} {v : List Value} {d : Sl} {n : Nat} {e : List Value} (hg : GrowS E sz w0 w q v d n e G) : St w0 w ([.row E sz q v] :: G) := by
  obtain ⟨hql, hel, hdl, hc⟩ := hg
  rcases hc with ⟨ha, hcap, h⟩ | h
  · have hrd := h.preR (k := 0) (i := 0) ⟨_, rfl, rfl⟩ (hi := q.len) (by omega)
    dsimp only [updG, setO] at hrd
    have e1 : (v ++ e).take (q.len * sz) = v := by rw [← hql, List.take_append_of_le_length (by simp), List.take_of_length_le (by simp)]
    have e2 : subS d 0 q.len sz = q := by rw [subS_zero, ha, hcap]
    rw [e1, e2] at hrd
    exact hrd
  · exact (St.one.1 h).drop 0
/-- One that has grown: what it was is its beginning, or is left where it is. -/
def FarS (E : TypeId) (sz : Nat) (x y : Sl × List Value) (g : List Ent) : Prop :=
  (∃ e, y.2 = x.2 ++ e) ∧ x.2.length = x.1.len * sz ∧ x.1.len ≤ y.1.len ∧ x.1.len ≤ x.1.cap ∧ (g = [.row E sz y.1 y.2] ∧ y.1.a = x.1.a ∨ g = [.row E sz y.1 y.2, .row E sz x.1 x.2])
theorem FarS.reads {E : TypeId} {sz : Nat} {x y : Sl × List Value} {g : List Ent} (hf : FarS E sz x y g) (h : St w0 w G) {k : Nat} {gs : List Ent} (hk : nthO G k = some gs) (hg : ∀ e ∈ g, e ∈ gs) : Rd w y.1 sz y.2 ∧ Rd w x.1 sz x.2 := by
  obtain ⟨⟨e, h1⟩, h2, h3, h4, h5⟩ := hf
  have hy : Rd w y.1 sz y.2 := by
    have : Ent.row E sz y.1 y.2 ∈ gs := hg _ (by rcases h5 with ⟨h5, _⟩ | h5 <;> rw [h5] <;> simp)
    exact (h.memG k hk this).1.rd
  refine ⟨hy, ?_⟩
  rcases h5 with ⟨h5, ha⟩ | h5
  · have hp := hy.pre (hi := x.1.len) h3
    rw [subS_zero] at hp
    have e : y.2.take (x.1.len * sz) = x.2 := by rw [h1, ← h2, List.take_append_of_le_length (by simp), List.take_of_length_le (by simp)]
    rw [e] at hp
    refine ⟨h2, ?_, h4⟩
    rcases hp.2.1 with h0 | ⟨b, o, hb, hc⟩
    · exact .inl h0
    · exact .inr ⟨b, o, by rw [← ha]; exact hb, hc⟩
  · have : Ent.row E sz x.1 x.2 ∈ gs := hg _ (by rw [h5]; simp)
    exact (h.memG k hk this).1.rd
theorem GrowS.far {E : TypeId} {sz : Nat} {q : Sl} {v : List Value} {d : Sl} {n : Nat} {e : List Value} (hg : GrowS E sz w0 w q v d n e G) (hc : q.len ≤ q.cap) : ∃ g, FarS E sz (q, v) (d, v ++ e) g ∧ St w0 w (g :: G) := by
  obtain ⟨h1, h2, h3, h4⟩ := hg
  rcases h4 with ⟨ha, hcap, h⟩ | h
  · exact ⟨_, ⟨⟨e, rfl⟩, h1, by dsimp only; omega, hc, .inl ⟨rfl, ha⟩⟩, h⟩
  · exact ⟨_, ⟨⟨e, rfl⟩, h1, by dsimp only; omega, hc, .inr rfl⟩, h⟩
end Go.Fw

/- Rows of values that are laid out in cells. -/
namespace Go.Fw
open Go Go.RowKit
set_option linter.unusedVariables false
set_option linter.unusedSimpArgs false
theorem flat_len {α : Type} {f : α → List Value} {n : Nat} (hf : ∀ x, (f x).length = n) : ∀ l : List α, (l.flatMap f).length = l.length * n
  | [] => by simp
  | x :: r => by rw [List.flatMap_cons, List.length_append, hf, flat_len hf r, List.length_cons, Nat.add_mul]; omega
theorem flat_at {α : Type} {f : α → List Value} {n : Nat} (hf : ∀ x, (f x).length = n) (l : List α) (i : Nat) (hi : i < l.length) : ((l.flatMap f).drop (i * n)).take n = f l[i] := by
  have e1 : l = l.take i ++ l[i] :: l.drop (i + 1) := by rw [← List.drop_eq_getElem_cons hi, List.take_append_drop]
  have hA : ((l.take i).flatMap f).length = i * n := by rw [flat_len hf, List.length_take, Nat.min_eq_left (by omega)]
  have e3 : l.flatMap f = (l.take i).flatMap f ++ (f l[i] ++ (l.drop (i + 1)).flatMap f) := by
    conv => lhs; rw [e1]
    rw [List.flatMap_append, List.flatMap_cons]
  rw [e3, List.drop_append, hA, Nat.sub_self, List.drop_zero, List.drop_of_length_le (by omega), List.nil_append, List.take_append_of_le_length (by rw [hf]; exact Nat.le_refl _), List.take_of_length_le (by rw [hf]; exact Nat.le_refl _)]
theorem flat_cell {α : Type} {f : α → List Value} {n : Nat} (hf : ∀ x, (f x).length = n) {l : List α} {j : Nat} (hj : j < l.length) (m : Nat) (hm : m < n) : (l.flatMap f)[j * n + m]? = (f l[j])[m]? := by
  have h := congrArg (fun y => y[m]?) (flat_at hf l j hj)
  simp only [List.getElem?_take, if_pos hm, List.getElem?_drop] at h
  exact h
theorem flat_part {α : Type} {f : α → List Value} {n : Nat} (hf : ∀ x, (f x).length = n) {l : List α} {j : Nat} (hj : j < l.length) (a k : Nat) (h : a + k ≤ n) : ((l.flatMap f).drop (j * n + a)).take k = ((f l[j]).drop a).take k := by
  rw [← flat_at hf l j hj, List.drop_take, List.take_take, List.drop_drop, Nat.min_eq_left (by omega)]
theorem flat_one {α : Type} {f : α → List Value} (h1 : ∀ x, ∀ v ∈ f x, v.oneCell' = true) (l : List α) : ∀ v ∈ l.flatMap f, v.oneCell' = true := by
  intro v hv
  obtain ⟨x, _, hx⟩ := List.mem_flatMap.1 hv
  exact h1 x v hx
section
variable {P : Program} {w0 w : World} {F G : Grps}
/-- Append onto a beginning of an owned row, within it. -/
theorem run_appIn {base : Nat} {t tx ty e : TypeId} {sz by_ : Nat} (et : ET P t e sz by_) (hsz : 0 < sz) {s : Sl} {vs : List Value} (ho : Ow w base e sz s vs) {x : Value} {lo n : Nat} {news : List Value} (hs : Src P sz tx x n news w)
    (hlt : lo < s.len) (hfit : lo + n ≤ s.len) :
    ∃ w', (Builtin.append_ #[t, tx] ty #[.slice s.a lo s.cap, x]).run P w = .ok (.slice s.a (lo + n) s.cap) w' ∧ Ow w' base e sz s (vs.take (lo * sz) ++ news ++ vs.drop ((lo + n) * sz)) ∧ Upd w w' (fun k => s.blk = some k) := by
  obtain ⟨i, z, hi, hz, h1, h2, h3⟩ := et.hi
  subst h1; subst h2
  rcases ho.2 with hnil | ⟨g, o, cs, ha, hbg, hg, hlc, hcm, hcs, htake⟩
  · subst hnil; simp at hlt
  · have hroom : lo + n ≤ s.cap := by omega
    have hle : (lo + n) * i.size ≤ s.len * i.size := Nat.mul_le_mul_right _ hfit
    have hle2 : s.len * i.size ≤ s.cap * i.size := Nat.mul_le_mul_right _ hlc
    rw [Nat.add_mul] at hle
    have hnl := hs.newsLen
    have hst := run_storeCells_at P g (o + lo * i.size) e news 0 ⟨cs⟩ w hg (by simp [hs.newsLen]; omega) hs.one
    simp only [Nat.add_zero] at hst
    have hvl := ho.1
    refine ⟨w.setRow g (cs.take (o + lo * i.size) ++ news ++ cs.drop (o + lo * i.size + news.length)).toArray, ?_, ⟨by simp only [List.length_append, List.length_take, List.length_drop, hvl, hnl, Nat.add_mul]; omega, .inr ⟨g, o, _, ha, hbg, setRow_heap w g _ _ e _ hg, hlc, hcm, ?_, ?_⟩⟩, Upd.setRow _ _ _ (by simp [Sl.blk, ha])⟩
    · rw [ha]
      rcases hs.kind with ⟨e', hk⟩ | hk <;> simp [Builtin.append_, run_underlying et.ht, run_underlying hk, sizeOf, typeInfo, hi, hs.len, hroom, hs.cells, Addr.add_lit, hst]
    · simp [hnl]; omega
    · have hl1 : (cs.take (o + lo * i.size)).length = o + lo * i.size := by simp; omega
      have hv : ∀ m, vs[m]? = if m < s.len * i.size then cs[o + m]? else none := fun m => by
        rw [← htake, List.getElem?_take, List.getElem?_drop]
      refine List.ext_getElem? fun m => ?_
      simp only [List.getElem?_append, List.getElem?_take, List.getElem?_drop, List.length_append, List.length_take, List.length_drop, hv, hvl, hnl, Nat.add_mul]
      have := hcs
      repeat' split
      all_goals first | rfl | (exfalso; omega) | (congr 1; omega) | skip
theorem St.appIn (h : St w0 w G) (k i : Nat) {e : TypeId} {sz by_ : Nat} {s : Sl} {vs : List Value} (he : Has G k i (.row e sz s vs)) {t tx ty : TypeId} [et : Et P t e sz by_] {ex : TypeId} [etx : Et P tx ex sz by_] {p : Sl} {news : List Value} (lo : Nat) (hr : Rd w p sz news) (h1 : ∀ v ∈ news, v.oneCell' = true)
    (hlt : lo < s.len) (hfit : lo + p.len ≤ s.len) {K : Sl → World → Prop} (hk : ∀ w', St w0 w' (updG G k i [.row e sz s (vs.take (lo * sz) ++ news ++ vs.drop ((lo + p.len) * sz))]) → K ⟨s.a, lo + p.len, s.cap⟩ w') :
    RunN P .sl (V (Builtin.append_ #[t, tx] ty #[.slice s.a lo s.cap, .slice p.a p.len p.cap])) w K := by
  obtain ⟨w', hr', ho, hu⟩ := run_appIn (P := P) (ty := ty) et.h et.pos (h.ow he) (Src.ofRd etx.h et.pos hr h1) hlt hfit
  refine RunN.of (kd := .sl) (x := ⟨s.a, lo + p.len, s.cap⟩) hr' (hk w' (h.change1 he hu ⟨ho, fun v hv => ?_⟩ fun j hj => .inl hj))
  simp only [Ent.vals] at hv
  rcases List.mem_append.1 hv with hv | hv
  · rcases List.mem_append.1 hv with hv | hv
    · exact h.one1 he v (List.mem_of_mem_take hv)
    · exact h1 v hv
  · exact h.one1 he v (List.mem_of_mem_drop hv)
end
end Go.Fw

/- The link in memory: types. -/
namespace Go.Proofs.Ytodgnpmljdopiaa
open Go Go.Fw Go.RowKit
set_option linter.unusedVariables false
set_option linter.unusedSimpArgs false
set_option maxRecDepth 4000

instance : Sc Try.prog 3 := ⟨by kernel_rfl⟩
instance : Sc Try.prog 4 := ⟨by kernel_rfl⟩
instance : Sc Try.prog 5 := ⟨by kernel_rfl⟩
instance : Sc Try.prog 26 := ⟨by kernel_rfl⟩
instance : Sc Try.prog 27 := ⟨by kernel_rfl⟩
instance : Sc Try.prog 33 := ⟨by kernel_rfl⟩
instance : Sc Try.prog 45 := ⟨by kernel_rfl⟩
instance : Sc Try.prog 51 := ⟨by kernel_rfl⟩
instance : Sc Try.prog 74 := ⟨by kernel_rfl⟩
instance : Sc Try.prog 75 := ⟨by kernel_rfl⟩
instance : Sc Try.prog 76 := ⟨by kernel_rfl⟩
instance : Ag Try.prog 62 5 := ⟨by kernel_rfl⟩
instance : Ag Try.prog 81 2 := ⟨by kernel_rfl⟩
instance : Et Try.prog 45 5 1 1 := ⟨ET.of (by kernel_rfl), by decide⟩
instance : Et Try.prog 51 45 1 24 := ⟨ET.of (by kernel_rfl), by decide⟩
instance : Et Try.prog 33 62 5 56 := ⟨ET.of (by kernel_rfl), by decide⟩
instance : Et Try.prog 75 81 2 32 := ⟨ET.of (by kernel_rfl), by decide⟩
instance : NewC Try.prog 81 [.int .i64 0, .slice none 0 0] := ⟨fun _ => by kernel_rfl⟩
instance : NewC Try.prog 62 [.int .i64 0, .int .i64 0, .int .i64 0, .int .i64 0, .slice none 0 0] := ⟨fun _ => by kernel_rfl⟩
instance : PtE Try.prog 23 := ⟨fun _ _ _ _ => by kernel_rfl, fun _ _ _ => by kernel_rfl, fun _ _ _ _ => by kernel_rfl, fun _ _ _ => by kernel_rfl⟩
instance : PtE Try.prog 26 := ⟨fun _ _ _ _ => by kernel_rfl, fun _ _ _ => by kernel_rfl, fun _ _ _ _ => by kernel_rfl, fun _ _ _ => by kernel_rfl⟩
instance : PtE Try.prog 27 := ⟨fun _ _ _ _ => by kernel_rfl, fun _ _ _ => by kernel_rfl, fun _ _ _ _ => by kernel_rfl, fun _ _ _ => by kernel_rfl⟩
theorem zero81 (w : World) : (zeroValue 81).run Try.prog w = .ok (.agg ⟨[.int .i64 0, .slice none 0 0]⟩) w := by kernel_rfl
theorem zero45 (w : World) : (zeroValue 45).run Try.prog w = .ok (.slice none 0 0) w := by kernel_rfl
theorem strB45 : strB Try.prog 45 5 9 = true := by kernel_rfl
theorem map76 : Try.prog.underlying 76 = some (.map 3 45) := by kernel_rfl
theorem int3 : Try.prog.underlying 3 = some (.int .i64) := by kernel_rfl
theorem bs45e (w : World) : (Instr.buildSlice 45 0 #[]).run Try.prog w = .ok (.slice (some ⟨w.heap.size, 0, none⟩) 0 0) (w.alloc (.cells ⟨[]⟩ 5)) := by kernel_rfl
theorem bs45 (w : World) (x : Int) : (Instr.buildSlice 45 1 #[(0, .int .u8 x)]).run Try.prog w = .ok (.slice (some ⟨w.heap.size, 0, none⟩) 1 1) (w.alloc (.cells ⟨[.int .u8 x]⟩ 5)) := by kernel_rfl
theorem bs45m (w : World) (x y z : Int) : (Instr.buildSlice 45 3 #[(0, .int .u8 x), (1, .int .u8 y), (2, .int .u8 z)]).run Try.prog w = .ok (.slice (some ⟨w.heap.size, 0, none⟩) 3 3) (w.alloc (.cells ⟨[.int .u8 x, .int .u8 y, .int .u8 z]⟩ 5)) := by kernel_rfl
theorem bs51 (w : World) (a : Option Addr) (l c : Nat) : (Instr.buildSlice 51 1 #[(0, .slice a l c)]).run Try.prog w = .ok (.slice (some ⟨w.heap.size, 0, none⟩) 1 1) (w.alloc (.cells ⟨[.slice a l c]⟩ 45)) := by kernel_rfl
theorem bs75 (w : World) (x : Int) (a : Option Addr) (l c : Nat) : (Instr.buildSlice 75 1 #[(0, .agg #[.int .i64 x, .slice a l c])]).run Try.prog w = .ok (.slice (some ⟨w.heap.size, 0, none⟩) 1 1) (w.alloc (.cells ⟨[.int .i64 x, .slice a l c]⟩ 81)) := by kernel_rfl
theorem bs33 (w : World) (x y z u : Int) (a : Option Addr) (l c : Nat) : (Instr.buildSlice 33 1 #[(0, .agg #[.int .i64 x, .int .i64 y, .int .i64 z, .int .i64 u, .slice a l c])]).run Try.prog w = .ok (.slice (some ⟨w.heap.size, 0, none⟩) 1 1) (w.alloc (.cells ⟨[.int .i64 x, .int .i64 y, .int .i64 z, .int .i64 u, .slice a l c]⟩ 62)) := by kernel_rfl
theorem eqnil45s (w : World) (x y : Operand) (a : Addr) (l c : Nat) : (do eqGuard .eql 45 x y (.slice (some a) l c) (.slice none 0 0); binOp .eql 45 (.slice (some a) l c) (.slice none 0 0) : Sem Value).run Try.prog w = .ok (.bool false) w := by kernel_rfl
theorem eqnil45n (w : World) (x y : Operand) (l c : Nat) : (do eqGuard .eql 45 x y (.slice none l c) (.slice none 0 0); binOp .eql 45 (.slice none l c) (.slice none 0 0) : Sem Value).run Try.prog w = .ok (.bool true) w := by kernel_rfl
end Go.Proofs.Ytodgnpmljdopiaa

/- The link in memory. -/
namespace Go.Proofs.Ytodgnpmljdopiaa
open Go Go.Fw Go.RowKit
set_option linter.unusedVariables false
set_option linter.unusedSimpArgs false
set_option maxRecDepth 4000
set_option maxHeartbeats 2000000
variable {w0 w : World} {F G : Grps}

/-- A number, a slice and its bytes. -/
abbrev Pc := Int × Sl × List UInt8
def pcv (p : Pc) : List Value := [.int .i64 p.1, .slice p.2.1.a p.2.1.len p.2.1.cap]
def pco (p : Pc) : Value := .agg ⟨pcv p⟩
def brow (p : Sl × List UInt8) : Ent := .row 5 1 p.1 (bys p.2)
def pct (p : Pc) : (Int × Sl × Unit) := (p.1, p.2.1, ())
theorem pcv_len (p : Pc) : (pcv p).length = 2 := rfl
theorem pcv_one (p : Pc) : ∀ v ∈ pcv p, v.oneCell' = true := by intro v hv; simp [pcv] at hv; rcases hv with rfl | rfl <;> rfl
abbrev Kdp : Kd := .agg (.cons (.int .i64) (.cons .sl .nilT))
/-- A segment. -/
structure Sg where
  fr : Int
  to : Int
  seq : Int
  ack : Int
  d : Sl × List UInt8
def sgv (s : Sg) : List Value := [.int .i64 s.fr, .int .i64 s.to, .int .i64 s.seq, .int .i64 s.ack, .slice s.d.1.a s.d.1.len s.d.1.cap]
theorem sgv_len (s : Sg) : (sgv s).length = 5 := rfl
theorem sgv_one (s : Sg) : ∀ v ∈ sgv s, v.oneCell' = true := by intro v hv; simp [sgv] at hv; rcases hv with rfl | rfl | rfl | rfl | rfl <;> rfl
def sgt (s : Sg) : (Int × Int × Int × Int × Sl × Unit) := (s.fr, s.to, s.seq, s.ack, s.d.1, ())
abbrev Kds : Kd := .agg (.cons (.int .i64) (.cons (.int .i64) (.cons (.int .i64) (.cons (.int .i64) (.cons .sl .nilT)))))
structure Lk where
  me : Int
  peer : Int
  win : Nat
  res : Int
  last : Int
  gone : Int
  want : Int
  ow : Bool
  du : Bool
  ag : Int
  un : List Pc
  bx : List Pc
  ea : List (Pc × Nat)
structure Lm extends Lk where
  cb : Nat
  ch : Nat
  cs : Nat
  cr : Nat
  mb : Nat
  mc : Nat
  us : Sl
def lmC (e : Lm) : List Value := [.int .i64 e.me, .int .i64 e.peer, .int .i64 (e.win : Int), .int .i64 e.res, .chan (some e.ch), .slice e.us.a e.us.len e.us.cap, .int .i64 e.last, .int .i64 e.gone, .int .i64 e.want, .map (some e.mb), .bool e.ow, .bool e.du, .int .i64 e.ag]
def eav (x : Pc × Nat) : Int × Value × Nat := (x.1.1, .slice x.1.2.1.a x.1.2.1.len x.1.2.1.cap, x.2)
def lmE (e : Lm) : List Ent := [.cel e.cb 78 (lmC e), .obj e.ch (.chan e.win ⟨e.bx.map pco⟩ false e.cs e.cr false), .obj e.mb (m1o (e.ea.map eav) e.mc), .row 81 2 e.us (e.un.flatMap pcv)]
def dat (e : Lk) : List Ent := (e.un ++ e.bx).map fun p => brow p.2
def eat (e : Lk) : List Ent := e.ea.map fun x => brow x.1.2
abbrev Lm.p (e : Lm) : Option Addr := some ⟨e.cb, 0, none⟩
structure Lk.wf (e : Lk) : Prop where
  me : 0 ≤ e.me ∧ e.me < 16
  peer : 0 ≤ e.peer ∧ e.peer < 16
  win : 1 ≤ e.win ∧ e.win ≤ 16
  res : 1 ≤ e.res ∧ e.res ≤ 1000
  cnt : e.un.length + e.bx.length ≤ e.win
  gone : e.gone = e.last - e.bx.length
  low : ((e.un.length + e.bx.length : Nat) : Int) ≤ e.last
  last : e.last ≤ 1099511627776
  want : 1 ≤ e.want ∧ e.want ≤ 1099511627777
  ag : 0 ≤ e.ag ∧ e.ag ≤ 1000
  seq : ∀ (i : Nat) (h : i < (e.un ++ e.bx).length), ((e.un ++ e.bx)[i]'h).1 = e.last - (e.un.length + e.bx.length : Nat) + 1 + i
  lens : ∀ p ∈ e.un ++ e.bx, p.2.2.length ≤ 4000
  elens : ∀ x ∈ e.ea, x.1.2.2.length ≤ 4000
  erange : ∀ x ∈ e.ea, e.want < x.1.1 ∧ x.1.1 < e.want + e.win ∧ x.1.1 ≤ 1099511627776
  nodup : (e.ea.map (·.1.1)).Nodup
def Lk.room (e : Lk) : Int := (e.win : Int) - e.bx.length - e.un.length
theorem us_len {e : Lm} (h : Rd w e.us 2 (e.un.flatMap pcv)) : e.us.len = e.un.length := by
  have := h.1; rw [flat_len pcv_len] at this; omega
theorem chan_len {e : Lm} (h : St w0 w (lmE e :: F)) : (Builtin.len_ #[74] 3 #[.chan (some e.ch)]).run Try.prog w = .ok (.int .i64 (e.bx.length : Nat)) w := by
  have hb := h.ob (k := 0) (i := 1) (b := e.ch) ⟨_, rfl, rfl⟩
  simp [Builtin.len_, getObj, Sem.run, hb]
  rfl
theorem room_st {e : Lm} (h : St w0 w (lmE e :: F)) (hw : e.wf) : CallK Try.prog (.int .i64) 12 #[.pointer e.p] w fun (v : Int) w' => v = e.room ∧ St w0 w' (lmE e :: F) := by
  refine T12.calls ?_
  unfold T12
  have hu := us_len (h.rd (k := 0) (i := 3) ⟨_, rfl, rfl⟩)
  have h1 := hw.cnt; have h2 := hw.win
  repeat (first | (with_reducible refine NilP.mk ?_) | ((with_reducible refine RunN.isLoad ?_); (first | refine h.load2 0 0 ⟨_, rfl, rfl⟩ rfl ?_ | refine h.loadB 0 0 ⟨_, rfl, rfl⟩ rfl rfl ?_ | refine h.drew.load2 0 0 ⟨_, rfl, rfl⟩ rfl ?_ | refine h.drew.loadB 0 0 ⟨_, rfl, rfl⟩ rfl rfl ?_)) | ((with_reducible refine ReadN.isLoad ?_); (first | refine h.read2 0 0 ⟨_, rfl, rfl⟩ rfl ?_ | refine h.readB 0 0 ⟨_, rfl, rfl⟩ rfl rfl ?_ | refine h.drew.read2 0 0 ⟨_, rfl, rfl⟩ rfl ?_ | refine h.drew.readB 0 0 ⟨_, rfl, rfl⟩ rfl rfl ?_)) | ((with_reducible refine StillV.isLoad ?_); (first | refine ⟨h.stillB 0 0 ⟨_, rfl, rfl⟩ rfl rfl, ?_⟩ | refine ⟨h.still2 0 0 ⟨_, rfl, rfl⟩ rfl, ?_⟩)) | ((with_reducible refine RunU.isStor ?_); (first | (refine h.stor2 0 0 ⟨_, rfl, rfl⟩ rfl ?_; intro w h; dsimp only [updG, setO] at h) | (refine h.storB 0 0 ⟨_, rfl, rfl⟩ rfl rfl rfl ?_; intro w h; dsimp only [updG, setO] at h) | (refine h.drew.stor2 0 0 ⟨_, rfl, rfl⟩ rfl ?_; intro w h; dsimp only [updG, setO] at h) | (refine h.drew.storB 0 0 ⟨_, rfl, rfl⟩ rfl rfl rfl ?_; intro w h; dsimp only [updG, setO] at h))) | ((with_reducible refine RunN.isBox ?_); (first | (refine h.newB run_boxA rfl ?_; intro bn w h; try dsimp only at h; have h := h.ord 2 [1, 0]; dsimp only [pick, nthO, dropO] at h) | (refine h.drew.newB run_boxA rfl ?_; intro bn w h; try dsimp only at h; have h := h.ord 2 [1, 0]; dsimp only [pick, nthO, dropO] at h))) | ((with_reducible refine RunN.isNew ?_); (first | (refine h.newB (NewC.run _) rfl ?_; intro bn w h; have h := h.ord 2 [1, 0]; dsimp only [pick, nthO, dropO] at h) | (refine h.drew.newB (NewC.run _) rfl ?_; intro bn w h; have h := h.ord 2 [1, 0]; dsimp only [pick, nthO, dropO] at h))) | (refine RunN.k2Eq ?_) | (refine RunN.k2Ne ?_) | (refine ReadN.k2Eq ?_) | (refine ReadN.k2Ne ?_))
  refine ReadN.of (kd := .int .i64) (chan_len h.drew) ?_
  repeat (first | (with_reducible refine NilP.mk ?_) | ((with_reducible refine RunN.isLoad ?_); (first | refine h.load2 0 0 ⟨_, rfl, rfl⟩ rfl ?_ | refine h.loadB 0 0 ⟨_, rfl, rfl⟩ rfl rfl ?_ | refine h.drew.load2 0 0 ⟨_, rfl, rfl⟩ rfl ?_ | refine h.drew.loadB 0 0 ⟨_, rfl, rfl⟩ rfl rfl ?_)) | ((with_reducible refine ReadN.isLoad ?_); (first | refine h.read2 0 0 ⟨_, rfl, rfl⟩ rfl ?_ | refine h.readB 0 0 ⟨_, rfl, rfl⟩ rfl rfl ?_ | refine h.drew.read2 0 0 ⟨_, rfl, rfl⟩ rfl ?_ | refine h.drew.readB 0 0 ⟨_, rfl, rfl⟩ rfl rfl ?_)) | ((with_reducible refine StillV.isLoad ?_); (first | refine ⟨h.stillB 0 0 ⟨_, rfl, rfl⟩ rfl rfl, ?_⟩ | refine ⟨h.still2 0 0 ⟨_, rfl, rfl⟩ rfl, ?_⟩)) | ((with_reducible refine RunU.isStor ?_); (first | (refine h.stor2 0 0 ⟨_, rfl, rfl⟩ rfl ?_; intro w h; dsimp only [updG, setO] at h) | (refine h.storB 0 0 ⟨_, rfl, rfl⟩ rfl rfl rfl ?_; intro w h; dsimp only [updG, setO] at h) | (refine h.drew.stor2 0 0 ⟨_, rfl, rfl⟩ rfl ?_; intro w h; dsimp only [updG, setO] at h) | (refine h.drew.storB 0 0 ⟨_, rfl, rfl⟩ rfl rfl rfl ?_; intro w h; dsimp only [updG, setO] at h))) | ((with_reducible refine RunN.isBox ?_); (first | (refine h.newB run_boxA rfl ?_; intro bn w h; try dsimp only at h; have h := h.ord 2 [1, 0]; dsimp only [pick, nthO, dropO] at h) | (refine h.drew.newB run_boxA rfl ?_; intro bn w h; try dsimp only at h; have h := h.ord 2 [1, 0]; dsimp only [pick, nthO, dropO] at h))) | ((with_reducible refine RunN.isNew ?_); (first | (refine h.newB (NewC.run _) rfl ?_; intro bn w h; have h := h.ord 2 [1, 0]; dsimp only [pick, nthO, dropO] at h) | (refine h.drew.newB (NewC.run _) rfl ?_; intro bn w h; have h := h.ord 2 [1, 0]; dsimp only [pick, nthO, dropO] at h))) | (refine RunN.k2Eq ?_) | (refine RunN.k2Ne ?_) | (refine ReadN.k2Eq ?_) | (refine ReadN.k2Ne ?_))
  rw [hu]
  refine ⟨?_, h.drew⟩
  rw [wr (x := (e.win : Int) - (e.bx.length : Int)) (by omega), wr (by omega), Lk.room]
theorem next_st {e : Lm} (h : St w0 w (lmE e :: F)) : CallK Try.prog (.int .i64) 11 #[.pointer e.p] w fun (v : Int) w' => v = e.want ∧ St w0 w' (lmE e :: F) := by
  refine T11.calls ?_
  unfold T11
  repeat (first | (with_reducible refine NilP.mk ?_) | ((with_reducible refine RunN.isLoad ?_); (first | refine h.load2 0 0 ⟨_, rfl, rfl⟩ rfl ?_ | refine h.loadB 0 0 ⟨_, rfl, rfl⟩ rfl rfl ?_ | refine h.drew.load2 0 0 ⟨_, rfl, rfl⟩ rfl ?_ | refine h.drew.loadB 0 0 ⟨_, rfl, rfl⟩ rfl rfl ?_)) | ((with_reducible refine ReadN.isLoad ?_); (first | refine h.read2 0 0 ⟨_, rfl, rfl⟩ rfl ?_ | refine h.readB 0 0 ⟨_, rfl, rfl⟩ rfl rfl ?_ | refine h.drew.read2 0 0 ⟨_, rfl, rfl⟩ rfl ?_ | refine h.drew.readB 0 0 ⟨_, rfl, rfl⟩ rfl rfl ?_)) | ((with_reducible refine StillV.isLoad ?_); (first | refine ⟨h.stillB 0 0 ⟨_, rfl, rfl⟩ rfl rfl, ?_⟩ | refine ⟨h.still2 0 0 ⟨_, rfl, rfl⟩ rfl, ?_⟩)) | ((with_reducible refine RunU.isStor ?_); (first | (refine h.stor2 0 0 ⟨_, rfl, rfl⟩ rfl ?_; intro w h; dsimp only [updG, setO] at h) | (refine h.storB 0 0 ⟨_, rfl, rfl⟩ rfl rfl rfl ?_; intro w h; dsimp only [updG, setO] at h) | (refine h.drew.stor2 0 0 ⟨_, rfl, rfl⟩ rfl ?_; intro w h; dsimp only [updG, setO] at h) | (refine h.drew.storB 0 0 ⟨_, rfl, rfl⟩ rfl rfl rfl ?_; intro w h; dsimp only [updG, setO] at h))) | ((with_reducible refine RunN.isBox ?_); (first | (refine h.newB run_boxA rfl ?_; intro bn w h; try dsimp only at h; have h := h.ord 2 [1, 0]; dsimp only [pick, nthO, dropO] at h) | (refine h.drew.newB run_boxA rfl ?_; intro bn w h; try dsimp only at h; have h := h.ord 2 [1, 0]; dsimp only [pick, nthO, dropO] at h))) | ((with_reducible refine RunN.isNew ?_); (first | (refine h.newB (NewC.run _) rfl ?_; intro bn w h; have h := h.ord 2 [1, 0]; dsimp only [pick, nthO, dropO] at h) | (refine h.drew.newB (NewC.run _) rfl ?_; intro bn w h; have h := h.ord 2 [1, 0]; dsimp only [pick, nthO, dropO] at h))) | (refine RunN.k2Eq ?_) | (refine RunN.k2Ne ?_) | (refine ReadN.k2Eq ?_) | (refine ReadN.k2Ne ?_))
  exact ⟨rfl, h⟩
theorem clone_st (h : St w0 w F) {p : Sl} {l : List UInt8} (hp : SeesG w0 F p 1 (bys l)) (hl : l.length ≤ 1048576) : CallK Try.prog .sl 32 #[.slice p.a p.len p.cap] w fun (s : Sl) w' => St w0 w' ([brow (s, l)] :: F) := by
  have hr := hp w h
  have hpl := hr.bys_len
  refine T32.calls ?_
  unfold T32
  cases ha : p.a with
  | none =>
    refine RunN.of (kd := .bool) (eqnil45n _ _ _ _ _) ?_
    rw [SplitB_iff]
    refine ⟨fun _ => ?_, fun hf => (by cases hf)⟩
    have : l = [] := by
      rcases hr.2.1 with h0 | ⟨b, o, ha', _⟩
      · cases l with
        | nil => rfl
        | cons x r => simp [bys] at h0
      · rw [ha] at ha'; cases ha'
    subst this
    exact h.nilrow 5 1
  | some a =>
    refine RunN.of (kd := .bool) (eqnil45s _ _ _ _ _ _) ?_
    rw [SplitB_iff]
    refine ⟨fun hf => (by cases hf), fun _ => ?_⟩
    refine h.newS 1 (bs45e _) rfl rfl rfl ?_
    intro s w1 hs1 hs2 hs3 h
    have h2 := h.drop 0
    have hr2 := hp _ h2
    have hq : (⟨some a, p.len, p.cap⟩ : Sl) = p := by cases p; simp at ha; subst ha; rfl
    refine h.app 0 0 ⟨_, rfl, rfl⟩ (p := ⟨some a, p.len, p.cap⟩) (by rw [hq]; exact hr2) (bys_one _) (by dsimp only [maxLen]; omega) (by dsimp only; omega) ?_
    intro s' w2 hl2 h
    exact h
theorem tick_st {e : Lm} (h : St w0 w (lmE e :: F)) (hw : e.wf) : CallK Try.prog (.tup .nilT) 20 #[.pointer e.p] w
    fun (_ : Unit) w' => St w0 w' (lmE { e with ag := if e.un.length = 0 then e.ag else if e.ag + 1 ≥ e.res then 0 else e.ag + 1, du := if e.un.length = 0 then e.du else if e.ag + 1 ≥ e.res then true else e.du } :: F) := by
  refine T20.calls ?_
  unfold T20
  have hu := us_len (h.rd (k := 0) (i := 3) ⟨_, rfl, rfl⟩)
  have h1 := hw.ag
  repeat (first | (with_reducible refine NilP.mk ?_) | ((with_reducible refine RunN.isLoad ?_); (first | refine h.load2 0 0 ⟨_, rfl, rfl⟩ rfl ?_ | refine h.loadB 0 0 ⟨_, rfl, rfl⟩ rfl rfl ?_ | refine h.drew.load2 0 0 ⟨_, rfl, rfl⟩ rfl ?_ | refine h.drew.loadB 0 0 ⟨_, rfl, rfl⟩ rfl rfl ?_)) | ((with_reducible refine ReadN.isLoad ?_); (first | refine h.read2 0 0 ⟨_, rfl, rfl⟩ rfl ?_ | refine h.readB 0 0 ⟨_, rfl, rfl⟩ rfl rfl ?_ | refine h.drew.read2 0 0 ⟨_, rfl, rfl⟩ rfl ?_ | refine h.drew.readB 0 0 ⟨_, rfl, rfl⟩ rfl rfl ?_)) | ((with_reducible refine StillV.isLoad ?_); (first | refine ⟨h.stillB 0 0 ⟨_, rfl, rfl⟩ rfl rfl, ?_⟩ | refine ⟨h.still2 0 0 ⟨_, rfl, rfl⟩ rfl, ?_⟩)) | ((with_reducible refine RunU.isStor ?_); (first | (refine h.stor2 0 0 ⟨_, rfl, rfl⟩ rfl ?_; intro w h; dsimp only [updG, setO] at h) | (refine h.storB 0 0 ⟨_, rfl, rfl⟩ rfl rfl rfl ?_; intro w h; dsimp only [updG, setO] at h) | (refine h.drew.stor2 0 0 ⟨_, rfl, rfl⟩ rfl ?_; intro w h; dsimp only [updG, setO] at h) | (refine h.drew.storB 0 0 ⟨_, rfl, rfl⟩ rfl rfl rfl ?_; intro w h; dsimp only [updG, setO] at h))) | ((with_reducible refine RunN.isBox ?_); (first | (refine h.newB run_boxA rfl ?_; intro bn w h; try dsimp only at h; have h := h.ord 2 [1, 0]; dsimp only [pick, nthO, dropO] at h) | (refine h.drew.newB run_boxA rfl ?_; intro bn w h; try dsimp only at h; have h := h.ord 2 [1, 0]; dsimp only [pick, nthO, dropO] at h))) | ((with_reducible refine RunN.isNew ?_); (first | (refine h.newB (NewC.run _) rfl ?_; intro bn w h; have h := h.ord 2 [1, 0]; dsimp only [pick, nthO, dropO] at h) | (refine h.drew.newB (NewC.run _) rfl ?_; intro bn w h; have h := h.ord 2 [1, 0]; dsimp only [pick, nthO, dropO] at h))) | (refine RunN.k2Eq ?_) | (refine RunN.k2Ne ?_) | (refine ReadN.k2Eq ?_) | (refine ReadN.k2Ne ?_))
  rw [hu]
  rw [SplitB_iff]
  refine ⟨fun hc => ?_, fun hc => ?_⟩
  · have hc : e.un.length = 0 := by have : (e.un.length : Int) = 0 := by simpa using hc
                                    omega
    rw [if_pos hc, if_pos hc]
    exact h
  · have hc : ¬ e.un.length = 0 := by intro h0; rw [h0] at hc; simp at hc
    simp only [if_neg hc]
    repeat (first | (with_reducible refine NilP.mk ?_) | ((with_reducible refine RunN.isLoad ?_); (first | refine h.load2 0 0 ⟨_, rfl, rfl⟩ rfl ?_ | refine h.loadB 0 0 ⟨_, rfl, rfl⟩ rfl rfl ?_ | refine h.drew.load2 0 0 ⟨_, rfl, rfl⟩ rfl ?_ | refine h.drew.loadB 0 0 ⟨_, rfl, rfl⟩ rfl rfl ?_)) | ((with_reducible refine ReadN.isLoad ?_); (first | refine h.read2 0 0 ⟨_, rfl, rfl⟩ rfl ?_ | refine h.readB 0 0 ⟨_, rfl, rfl⟩ rfl rfl ?_ | refine h.drew.read2 0 0 ⟨_, rfl, rfl⟩ rfl ?_ | refine h.drew.readB 0 0 ⟨_, rfl, rfl⟩ rfl rfl ?_)) | ((with_reducible refine StillV.isLoad ?_); (first | refine ⟨h.stillB 0 0 ⟨_, rfl, rfl⟩ rfl rfl, ?_⟩ | refine ⟨h.still2 0 0 ⟨_, rfl, rfl⟩ rfl, ?_⟩)) | ((with_reducible refine RunU.isStor ?_); (first | (refine h.stor2 0 0 ⟨_, rfl, rfl⟩ rfl ?_; intro w h; dsimp only [updG, setO] at h) | (refine h.storB 0 0 ⟨_, rfl, rfl⟩ rfl rfl rfl ?_; intro w h; dsimp only [updG, setO] at h) | (refine h.drew.stor2 0 0 ⟨_, rfl, rfl⟩ rfl ?_; intro w h; dsimp only [updG, setO] at h) | (refine h.drew.storB 0 0 ⟨_, rfl, rfl⟩ rfl rfl rfl ?_; intro w h; dsimp only [updG, setO] at h))) | ((with_reducible refine RunN.isBox ?_); (first | (refine h.newB run_boxA rfl ?_; intro bn w h; try dsimp only at h; have h := h.ord 2 [1, 0]; dsimp only [pick, nthO, dropO] at h) | (refine h.drew.newB run_boxA rfl ?_; intro bn w h; try dsimp only at h; have h := h.ord 2 [1, 0]; dsimp only [pick, nthO, dropO] at h))) | ((with_reducible refine RunN.isNew ?_); (first | (refine h.newB (NewC.run _) rfl ?_; intro bn w h; have h := h.ord 2 [1, 0]; dsimp only [pick, nthO, dropO] at h) | (refine h.drew.newB (NewC.run _) rfl ?_; intro bn w h; have h := h.ord 2 [1, 0]; dsimp only [pick, nthO, dropO] at h))) | (refine RunN.k2Eq ?_) | (refine RunN.k2Ne ?_) | (refine ReadN.k2Eq ?_) | (refine ReadN.k2Ne ?_))
    rw [wr (by omega)] at h ⊢
    rw [SplitB_iff]
    refine ⟨fun hd => ?_, fun hd => ?_⟩
    · have hd : e.ag + 1 ≥ e.res := of_decide_eq_true hd
      simp only [if_pos hd]
      refine NilP.mk ?_
      refine h.drew.storB 0 0 ⟨_, rfl, rfl⟩ rfl rfl rfl ?_
      intro w h
      dsimp only [updG, setO] at h
      repeat (first | (with_reducible refine NilP.mk ?_) | ((with_reducible refine RunN.isLoad ?_); (first | refine h.load2 0 0 ⟨_, rfl, rfl⟩ rfl ?_ | refine h.loadB 0 0 ⟨_, rfl, rfl⟩ rfl rfl ?_ | refine h.drew.load2 0 0 ⟨_, rfl, rfl⟩ rfl ?_ | refine h.drew.loadB 0 0 ⟨_, rfl, rfl⟩ rfl rfl ?_)) | ((with_reducible refine ReadN.isLoad ?_); (first | refine h.read2 0 0 ⟨_, rfl, rfl⟩ rfl ?_ | refine h.readB 0 0 ⟨_, rfl, rfl⟩ rfl rfl ?_ | refine h.drew.read2 0 0 ⟨_, rfl, rfl⟩ rfl ?_ | refine h.drew.readB 0 0 ⟨_, rfl, rfl⟩ rfl rfl ?_)) | ((with_reducible refine StillV.isLoad ?_); (first | refine ⟨h.stillB 0 0 ⟨_, rfl, rfl⟩ rfl rfl, ?_⟩ | refine ⟨h.still2 0 0 ⟨_, rfl, rfl⟩ rfl, ?_⟩)) | ((with_reducible refine RunU.isStor ?_); (first | (refine h.stor2 0 0 ⟨_, rfl, rfl⟩ rfl ?_; intro w h; dsimp only [updG, setO] at h) | (refine h.storB 0 0 ⟨_, rfl, rfl⟩ rfl rfl rfl ?_; intro w h; dsimp only [updG, setO] at h) | (refine h.drew.stor2 0 0 ⟨_, rfl, rfl⟩ rfl ?_; intro w h; dsimp only [updG, setO] at h) | (refine h.drew.storB 0 0 ⟨_, rfl, rfl⟩ rfl rfl rfl ?_; intro w h; dsimp only [updG, setO] at h))) | ((with_reducible refine RunN.isBox ?_); (first | (refine h.newB run_boxA rfl ?_; intro bn w h; try dsimp only at h; have h := h.ord 2 [1, 0]; dsimp only [pick, nthO, dropO] at h) | (refine h.drew.newB run_boxA rfl ?_; intro bn w h; try dsimp only at h; have h := h.ord 2 [1, 0]; dsimp only [pick, nthO, dropO] at h))) | ((with_reducible refine RunN.isNew ?_); (first | (refine h.newB (NewC.run _) rfl ?_; intro bn w h; have h := h.ord 2 [1, 0]; dsimp only [pick, nthO, dropO] at h) | (refine h.drew.newB (NewC.run _) rfl ?_; intro bn w h; have h := h.ord 2 [1, 0]; dsimp only [pick, nthO, dropO] at h))) | (refine RunN.k2Eq ?_) | (refine RunN.k2Ne ?_) | (refine ReadN.k2Eq ?_) | (refine ReadN.k2Ne ?_))
      exact h
    · have hd : ¬ e.ag + 1 ≥ e.res := of_decide_eq_false hd
      simp only [if_neg hd]
      exact h.drew
end Go.Proofs.Ytodgnpmljdopiaa

/- The link in memory: what is handed in, what is told. -/
namespace Go.Proofs.Ytodgnpmljdopiaa
open Go Go.Fw Go.RowKit
set_option linter.unusedVariables false
set_option linter.unusedSimpArgs false
set_option maxRecDepth 4000
set_option maxHeartbeats 2000000
variable {w0 w : World} {F G : Grps}

theorem snoc_grp {x : Ent} {A g : List Ent} (h : St w0 w ([x] :: A :: g :: F)) : St w0 w (A :: (g ++ [x]) :: F) := by
  refine h.perm ?_
  simp only [List.flatten_cons, List.singleton_append, List.append_assoc]
  refine (List.perm_middle (a := x) (l₁ := A) (l₂ := g ++ F.flatten)).symm.trans ?_
  exact List.Perm.append_left A (List.perm_middle (a := x) (l₁ := g) (l₂ := F.flatten)).symm
theorem sup {p : Sl} {sz : Nat} {vs : List Value} {g : List Ent} (h : SeesG w0 F p sz vs) : SeesG w0 (g :: F) p sz vs := fun w hw => h w (hw.drop 0)
/-- What Send makes of a link. -/
def Lk.refuse (e : Lk) (l : List UInt8) : Int := if l.length > 4000 then 2 else if e.room ≤ 0 ∨ e.last ≥ 1099511627776 then 30 else 0
def Lm.sent (e : Lm) (s : Sl) (l : List UInt8) : Lm := { e with last := e.last + 1, cs := e.cs + 1, bx := e.bx ++ [(e.last + 1, s, l)] }
theorem send_st {e : Lm} (h : St w0 w (lmE e :: dat e.toLk :: F)) (hw : e.wf) {p : Sl} {l : List UInt8} (hp : SeesG w0 F p 1 (bys l)) (hl : l.length ≤ 140737488351232) : CallK Try.prog (.int .i64) 23 #[.pointer e.p, .slice p.a p.len p.cap] w
    fun (v : Int) w' => v = e.refuse l ∧ (v ≠ 0 → St w0 w' (lmE e :: dat e.toLk :: F)) ∧ (v = 0 → ∃ s, St w0 w' (lmE (e.sent s l) :: dat (e.sent s l).toLk :: F)) := by
  have hpl := (hp _ ((h.drop 0).drop 0)).bys_len
  refine T23.calls ?_
  unfold T23
  rw [SplitB_iff]
  refine ⟨fun hc => ?_, fun hc => ?_⟩
  · have hc : l.length > 4000 := by have : (p.len : Int) > 4000 := of_decide_eq_true hc
                                    omega
    have : e.refuse l = 2 := by rw [Lk.refuse, if_pos hc]
    rw [this]
    exact ⟨rfl, fun _ => h, fun h0 => by cases h0⟩
  · have hc : ¬ l.length > 4000 := by have : ¬ (p.len : Int) > 4000 := of_decide_eq_false hc
                                      omega
    refine JoinX.mk (fun (y : Bool × Unit) w' => y.1 = decide (e.room ≤ 0 ∨ e.last ≥ 1099511627776) ∧ St w0 w' (lmE e :: dat e.toLk :: F)) ?_ ?_
    · rintro ⟨y, ⟨⟩⟩ w1 ⟨hy, h⟩
      dsimp only at hy
      subst hy
      rw [SplitB_iff]
      refine ⟨fun hd => ?_, fun hd => ?_⟩
      · have hd : e.room ≤ 0 ∨ e.last ≥ 1099511627776 := of_decide_eq_true hd
        have : e.refuse l = 30 := by rw [Lk.refuse, if_neg hc, if_pos hd]
        rw [this]
        exact ⟨rfl, fun _ => h, fun h0 => by cases h0⟩
      · have hd : ¬ (e.room ≤ 0 ∨ e.last ≥ 1099511627776) := of_decide_eq_false hd
        have : e.refuse l = 0 := by rw [Lk.refuse, if_neg hc, if_neg hd]
        rw [this]
        rw [not_or] at hd
        have h1 := hw.low
        have hr : e.room = (e.win : Int) - e.bx.length - e.un.length := rfl
        repeat (first | (with_reducible refine NilP.mk ?_) | ((with_reducible refine RunN.isLoad ?_); (first | refine h.load2 0 0 ⟨_, rfl, rfl⟩ rfl ?_ | refine h.loadB 0 0 ⟨_, rfl, rfl⟩ rfl rfl ?_ | refine h.drew.load2 0 0 ⟨_, rfl, rfl⟩ rfl ?_ | refine h.drew.loadB 0 0 ⟨_, rfl, rfl⟩ rfl rfl ?_)) | ((with_reducible refine ReadN.isLoad ?_); (first | refine h.read2 0 0 ⟨_, rfl, rfl⟩ rfl ?_ | refine h.readB 0 0 ⟨_, rfl, rfl⟩ rfl rfl ?_ | refine h.drew.read2 0 0 ⟨_, rfl, rfl⟩ rfl ?_ | refine h.drew.readB 0 0 ⟨_, rfl, rfl⟩ rfl rfl ?_)) | ((with_reducible refine StillV.isLoad ?_); (first | refine ⟨h.stillB 0 0 ⟨_, rfl, rfl⟩ rfl rfl, ?_⟩ | refine ⟨h.still2 0 0 ⟨_, rfl, rfl⟩ rfl, ?_⟩)) | ((with_reducible refine RunU.isStor ?_); (first | (refine h.stor2 0 0 ⟨_, rfl, rfl⟩ rfl ?_; intro w h; dsimp only [updG, setO] at h) | (refine h.storB 0 0 ⟨_, rfl, rfl⟩ rfl rfl rfl ?_; intro w h; dsimp only [updG, setO] at h) | (refine h.drew.stor2 0 0 ⟨_, rfl, rfl⟩ rfl ?_; intro w h; dsimp only [updG, setO] at h) | (refine h.drew.storB 0 0 ⟨_, rfl, rfl⟩ rfl rfl rfl ?_; intro w h; dsimp only [updG, setO] at h))) | ((with_reducible refine RunN.isBox ?_); (first | (refine h.newB run_boxA rfl ?_; intro bn w h; try dsimp only at h; have h := h.ord 2 [1, 0]; dsimp only [pick, nthO, dropO] at h) | (refine h.drew.newB run_boxA rfl ?_; intro bn w h; try dsimp only at h; have h := h.ord 2 [1, 0]; dsimp only [pick, nthO, dropO] at h))) | ((with_reducible refine RunN.isNew ?_); (first | (refine h.newB (NewC.run _) rfl ?_; intro bn w h; have h := h.ord 2 [1, 0]; dsimp only [pick, nthO, dropO] at h) | (refine h.drew.newB (NewC.run _) rfl ?_; intro bn w h; have h := h.ord 2 [1, 0]; dsimp only [pick, nthO, dropO] at h))) | (refine RunN.k2Eq ?_) | (refine RunN.k2Ne ?_) | (refine ReadN.k2Eq ?_) | (refine ReadN.k2Ne ?_))
        refine (clone_st h.drew (sup (sup hp)) (by omega)).mono ?_
        intro s w2 h
        repeat (first | (with_reducible refine NilP.mk ?_) | ((with_reducible refine RunN.isLoad ?_); (first | refine h.load2 0 0 ⟨_, rfl, rfl⟩ rfl ?_ | refine h.loadB 0 0 ⟨_, rfl, rfl⟩ rfl rfl ?_ | refine h.load2 1 0 ⟨_, rfl, rfl⟩ rfl ?_ | refine h.loadB 1 0 ⟨_, rfl, rfl⟩ rfl rfl ?_ | refine h.drew.load2 0 0 ⟨_, rfl, rfl⟩ rfl ?_ | refine h.drew.loadB 0 0 ⟨_, rfl, rfl⟩ rfl rfl ?_ | refine h.drew.load2 1 0 ⟨_, rfl, rfl⟩ rfl ?_ | refine h.drew.loadB 1 0 ⟨_, rfl, rfl⟩ rfl rfl ?_)) | ((with_reducible refine ReadN.isLoad ?_); (first | refine h.read2 0 0 ⟨_, rfl, rfl⟩ rfl ?_ | refine h.readB 0 0 ⟨_, rfl, rfl⟩ rfl rfl ?_ | refine h.read2 1 0 ⟨_, rfl, rfl⟩ rfl ?_ | refine h.readB 1 0 ⟨_, rfl, rfl⟩ rfl rfl ?_ | refine h.drew.read2 0 0 ⟨_, rfl, rfl⟩ rfl ?_ | refine h.drew.readB 0 0 ⟨_, rfl, rfl⟩ rfl rfl ?_ | refine h.drew.read2 1 0 ⟨_, rfl, rfl⟩ rfl ?_ | refine h.drew.readB 1 0 ⟨_, rfl, rfl⟩ rfl rfl ?_)) | ((with_reducible refine StillV.isLoad ?_); (first | refine ⟨h.stillB 0 0 ⟨_, rfl, rfl⟩ rfl rfl, ?_⟩ | refine ⟨h.still2 0 0 ⟨_, rfl, rfl⟩ rfl, ?_⟩ | refine ⟨h.stillB 1 0 ⟨_, rfl, rfl⟩ rfl rfl, ?_⟩ | refine ⟨h.still2 1 0 ⟨_, rfl, rfl⟩ rfl, ?_⟩)) | ((with_reducible refine RunU.isStor ?_); (first | (refine h.stor2 0 0 ⟨_, rfl, rfl⟩ rfl ?_; intro w h; dsimp only [updG, setO] at h) | (refine h.storB 0 0 ⟨_, rfl, rfl⟩ rfl rfl rfl ?_; intro w h; dsimp only [updG, setO] at h) | (refine h.stor2 1 0 ⟨_, rfl, rfl⟩ rfl ?_; intro w h; dsimp only [updG, setO] at h) | (refine h.storB 1 0 ⟨_, rfl, rfl⟩ rfl rfl rfl ?_; intro w h; dsimp only [updG, setO] at h) | (refine h.drew.stor2 0 0 ⟨_, rfl, rfl⟩ rfl ?_; intro w h; dsimp only [updG, setO] at h) | (refine h.drew.storB 0 0 ⟨_, rfl, rfl⟩ rfl rfl rfl ?_; intro w h; dsimp only [updG, setO] at h) | (refine h.drew.stor2 1 0 ⟨_, rfl, rfl⟩ rfl ?_; intro w h; dsimp only [updG, setO] at h) | (refine h.drew.storB 1 0 ⟨_, rfl, rfl⟩ rfl rfl rfl ?_; intro w h; dsimp only [updG, setO] at h))) | ((with_reducible refine RunN.isBox ?_); (first | (refine h.newB run_boxA rfl ?_; intro bn w h; try dsimp only at h; have h := h.ord 2 [1, 0]; dsimp only [pick, nthO, dropO] at h) | (refine h.drew.newB run_boxA rfl ?_; intro bn w h; try dsimp only at h; have h := h.ord 2 [1, 0]; dsimp only [pick, nthO, dropO] at h))) | ((with_reducible refine RunN.isNew ?_); (first | (refine h.newB (NewC.run _) rfl ?_; intro bn w h; have h := h.ord 2 [1, 0]; dsimp only [pick, nthO, dropO] at h) | (refine h.drew.newB (NewC.run _) rfl ?_; intro bn w h; have h := h.ord 2 [1, 0]; dsimp only [pick, nthO, dropO] at h))) | (refine RunN.k2Eq ?_) | (refine RunN.k2Ne ?_) | (refine ReadN.k2Eq ?_) | (refine ReadN.k2Ne ?_))
        rw [wr (by omega)]
        refine h.send 1 1 ⟨_, rfl, rfl⟩ (by simp only [List.length_map]; omega) (zero81 _) ?_
        intro w3 h
        dsimp only [updG, setO] at h
        rw [SplitB_iff]
        refine ⟨fun hz => ?_, fun hz => ?_⟩
        · refine NilP.mk ?_
          refine h.loadB 1 0 ⟨_, rfl, rfl⟩ rfl (kd := .int .i64) (x := e.last) rfl ?_
          refine NilP.mk ?_
          rw [wr (by omega)]
          refine h.storB 1 0 ⟨_, rfl, rfl⟩ rfl rfl rfl ?_
          intro w4 h
          dsimp only [updG, setO] at h
          refine ⟨rfl, fun h0 => absurd rfl h0, fun _ => ⟨s, ?_⟩⟩
          have h := snoc_grp h
          have e1 : dat (e.sent s l).toLk = dat e.toLk ++ [brow (s, l)] := by simp [dat, Lm.sent]
          have e2 : (e.bx ++ [(e.last + 1, s, l)]).map pco = e.bx.map pco ++ [pco (e.last + 1, s, l)] := by simp
          rw [e1]
          have e3 : lmE (e.sent s l) = [.cel e.cb 78 (lmC (e.sent s l)), .obj e.ch (.chan e.win ⟨(e.bx ++ [(e.last + 1, s, l)]).map pco⟩ false (e.cs + 1) e.cr false), .obj e.mb (m1o (e.ea.map eav) e.mc), .row 81 2 e.us (e.un.flatMap pcv)] := rfl
          rw [e3, e2]
          exact h
        · cases hz
    · intro k hk
      refine (room_st h hw).mono ?_
      rintro v w1 ⟨hv, h⟩
      have hv : (v : Int) = e.room := hv
      rw [hv]
      rw [SplitB_iff]
      refine ⟨fun hd => ?_, fun hd => ?_⟩
      · have hd : e.room ≤ 0 := of_decide_eq_true hd
        exact hk _ _ ⟨by simp [hd], h⟩
      · have hd : ¬ e.room ≤ 0 := of_decide_eq_false hd
        repeat (first | (with_reducible refine NilP.mk ?_) | ((with_reducible refine RunN.isLoad ?_); (first | refine h.load2 0 0 ⟨_, rfl, rfl⟩ rfl ?_ | refine h.loadB 0 0 ⟨_, rfl, rfl⟩ rfl rfl ?_ | refine h.drew.load2 0 0 ⟨_, rfl, rfl⟩ rfl ?_ | refine h.drew.loadB 0 0 ⟨_, rfl, rfl⟩ rfl rfl ?_)) | ((with_reducible refine ReadN.isLoad ?_); (first | refine h.read2 0 0 ⟨_, rfl, rfl⟩ rfl ?_ | refine h.readB 0 0 ⟨_, rfl, rfl⟩ rfl rfl ?_ | refine h.drew.read2 0 0 ⟨_, rfl, rfl⟩ rfl ?_ | refine h.drew.readB 0 0 ⟨_, rfl, rfl⟩ rfl rfl ?_)) | ((with_reducible refine StillV.isLoad ?_); (first | refine ⟨h.stillB 0 0 ⟨_, rfl, rfl⟩ rfl rfl, ?_⟩ | refine ⟨h.still2 0 0 ⟨_, rfl, rfl⟩ rfl, ?_⟩)) | ((with_reducible refine RunU.isStor ?_); (first | (refine h.stor2 0 0 ⟨_, rfl, rfl⟩ rfl ?_; intro w h; dsimp only [updG, setO] at h) | (refine h.storB 0 0 ⟨_, rfl, rfl⟩ rfl rfl rfl ?_; intro w h; dsimp only [updG, setO] at h) | (refine h.drew.stor2 0 0 ⟨_, rfl, rfl⟩ rfl ?_; intro w h; dsimp only [updG, setO] at h) | (refine h.drew.storB 0 0 ⟨_, rfl, rfl⟩ rfl rfl rfl ?_; intro w h; dsimp only [updG, setO] at h))) | ((with_reducible refine RunN.isBox ?_); (first | (refine h.newB run_boxA rfl ?_; intro bn w h; try dsimp only at h; have h := h.ord 2 [1, 0]; dsimp only [pick, nthO, dropO] at h) | (refine h.drew.newB run_boxA rfl ?_; intro bn w h; try dsimp only at h; have h := h.ord 2 [1, 0]; dsimp only [pick, nthO, dropO] at h))) | ((with_reducible refine RunN.isNew ?_); (first | (refine h.newB (NewC.run _) rfl ?_; intro bn w h; have h := h.ord 2 [1, 0]; dsimp only [pick, nthO, dropO] at h) | (refine h.drew.newB (NewC.run _) rfl ?_; intro bn w h; have h := h.ord 2 [1, 0]; dsimp only [pick, nthO, dropO] at h))) | (refine RunN.k2Eq ?_) | (refine RunN.k2Ne ?_) | (refine ReadN.k2Eq ?_) | (refine ReadN.k2Ne ?_))
        exact hk _ _ ⟨by simp [hd], h⟩
/-! ### segments -/
def Lk.seg (e : Lk) (p : Pc) (s : Sl) : Sg := ⟨e.me, e.peer, p.1, e.want - 1, (s, p.2.2)⟩
theorem segment_st {e : Lm} (h : St w0 w (lmE e :: F)) (h1 : 1 ≤ e.want ∧ e.want ≤ 1099511627777) {p : Pc} (hp : SeesG w0 F p.2.1 1 (bys p.2.2)) (hl : p.2.2.length ≤ 1048576) :
    CallK Try.prog (.agg (.cons (.int .i64) (.cons (.int .i64) (.cons (.int .i64) (.cons (.int .i64) (.cons .sl .nilT)))))) 28 #[.pointer e.p, .agg #[.int .i64 p.1, .slice p.2.1.a p.2.1.len p.2.1.cap]] w
    fun (v : Int × Int × Int × Int × Sl × Unit) w' => ∃ s, v = sgt (e.seg p s) ∧ St w0 w' ([brow (s, p.2.2)] :: lmE e :: F) := by
  refine T28.calls (p1 := pct p) ?_
  unfold T28
  refine h.newB run_boxA rfl ?_
  intro b1 w h
  refine h.newB (NewC.run _) rfl ?_
  intro b2 w h
  have h := h.ord 3 [2, 1, 0]
  dsimp only [pick, nthO, dropO] at h
  repeat (first | (with_reducible refine NilP.mk ?_) | ((with_reducible refine RunN.isLoad ?_); (first | refine h.load2 0 0 ⟨_, rfl, rfl⟩ rfl ?_ | refine h.loadB 0 0 ⟨_, rfl, rfl⟩ rfl rfl ?_ | refine h.load2 1 0 ⟨_, rfl, rfl⟩ rfl ?_ | refine h.loadB 1 0 ⟨_, rfl, rfl⟩ rfl rfl ?_ | refine h.load2 2 0 ⟨_, rfl, rfl⟩ rfl ?_ | refine h.loadB 2 0 ⟨_, rfl, rfl⟩ rfl rfl ?_ | refine h.drew.load2 0 0 ⟨_, rfl, rfl⟩ rfl ?_ | refine h.drew.loadB 0 0 ⟨_, rfl, rfl⟩ rfl rfl ?_ | refine h.drew.load2 1 0 ⟨_, rfl, rfl⟩ rfl ?_ | refine h.drew.loadB 1 0 ⟨_, rfl, rfl⟩ rfl rfl ?_ | refine h.drew.load2 2 0 ⟨_, rfl, rfl⟩ rfl ?_ | refine h.drew.loadB 2 0 ⟨_, rfl, rfl⟩ rfl rfl ?_)) | ((with_reducible refine ReadN.isLoad ?_); (first | refine h.read2 0 0 ⟨_, rfl, rfl⟩ rfl ?_ | refine h.readB 0 0 ⟨_, rfl, rfl⟩ rfl rfl ?_ | refine h.read2 1 0 ⟨_, rfl, rfl⟩ rfl ?_ | refine h.readB 1 0 ⟨_, rfl, rfl⟩ rfl rfl ?_ | refine h.read2 2 0 ⟨_, rfl, rfl⟩ rfl ?_ | refine h.readB 2 0 ⟨_, rfl, rfl⟩ rfl rfl ?_ | refine h.drew.read2 0 0 ⟨_, rfl, rfl⟩ rfl ?_ | refine h.drew.readB 0 0 ⟨_, rfl, rfl⟩ rfl rfl ?_ | refine h.drew.read2 1 0 ⟨_, rfl, rfl⟩ rfl ?_ | refine h.drew.readB 1 0 ⟨_, rfl, rfl⟩ rfl rfl ?_ | refine h.drew.read2 2 0 ⟨_, rfl, rfl⟩ rfl ?_ | refine h.drew.readB 2 0 ⟨_, rfl, rfl⟩ rfl rfl ?_)) | ((with_reducible refine StillV.isLoad ?_); (first | refine ⟨h.stillB 0 0 ⟨_, rfl, rfl⟩ rfl rfl, ?_⟩ | refine ⟨h.still2 0 0 ⟨_, rfl, rfl⟩ rfl, ?_⟩ | refine ⟨h.stillB 1 0 ⟨_, rfl, rfl⟩ rfl rfl, ?_⟩ | refine ⟨h.still2 1 0 ⟨_, rfl, rfl⟩ rfl, ?_⟩ | refine ⟨h.stillB 2 0 ⟨_, rfl, rfl⟩ rfl rfl, ?_⟩ | refine ⟨h.still2 2 0 ⟨_, rfl, rfl⟩ rfl, ?_⟩)) | ((with_reducible refine RunU.isStor ?_); (first | (refine h.stor2 0 0 ⟨_, rfl, rfl⟩ rfl ?_; intro w h; dsimp only [updG, setO] at h) | (refine h.storB 0 0 ⟨_, rfl, rfl⟩ rfl rfl rfl ?_; intro w h; dsimp only [updG, setO] at h) | (refine h.stor2 1 0 ⟨_, rfl, rfl⟩ rfl ?_; intro w h; dsimp only [updG, setO] at h) | (refine h.storB 1 0 ⟨_, rfl, rfl⟩ rfl rfl rfl ?_; intro w h; dsimp only [updG, setO] at h) | (refine h.stor2 2 0 ⟨_, rfl, rfl⟩ rfl ?_; intro w h; dsimp only [updG, setO] at h) | (refine h.storB 2 0 ⟨_, rfl, rfl⟩ rfl rfl rfl ?_; intro w h; dsimp only [updG, setO] at h) | (refine h.drew.stor2 0 0 ⟨_, rfl, rfl⟩ rfl ?_; intro w h; dsimp only [updG, setO] at h) | (refine h.drew.storB 0 0 ⟨_, rfl, rfl⟩ rfl rfl rfl ?_; intro w h; dsimp only [updG, setO] at h) | (refine h.drew.stor2 1 0 ⟨_, rfl, rfl⟩ rfl ?_; intro w h; dsimp only [updG, setO] at h) | (refine h.drew.storB 1 0 ⟨_, rfl, rfl⟩ rfl rfl rfl ?_; intro w h; dsimp only [updG, setO] at h) | (refine h.drew.stor2 2 0 ⟨_, rfl, rfl⟩ rfl ?_; intro w h; dsimp only [updG, setO] at h) | (refine h.drew.storB 2 0 ⟨_, rfl, rfl⟩ rfl rfl rfl ?_; intro w h; dsimp only [updG, setO] at h))) | ((with_reducible refine RunN.isBox ?_); (first | (refine h.newB run_boxA rfl ?_; intro bn w h; try dsimp only at h; have h := h.ord 2 [1, 0]; dsimp only [pick, nthO, dropO] at h) | (refine h.drew.newB run_boxA rfl ?_; intro bn w h; try dsimp only at h; have h := h.ord 2 [1, 0]; dsimp only [pick, nthO, dropO] at h))) | ((with_reducible refine RunN.isNew ?_); (first | (refine h.newB (NewC.run _) rfl ?_; intro bn w h; have h := h.ord 2 [1, 0]; dsimp only [pick, nthO, dropO] at h) | (refine h.drew.newB (NewC.run _) rfl ?_; intro bn w h; have h := h.ord 2 [1, 0]; dsimp only [pick, nthO, dropO] at h))) | (refine RunN.k2Eq ?_) | (refine RunN.k2Ne ?_) | (refine ReadN.k2Eq ?_) | (refine ReadN.k2Ne ?_))
  have h := h.ord 3 [1, 2, 0]
  dsimp only [pick, nthO, dropO] at h
  have h := h.drew
  have h := h.ord 3 [0, 1, 2]
  dsimp only [pick, nthO, dropO] at h
  refine (clone_st h (sup (sup (sup hp))) hl).mono ?_
  intro s w2 h
  repeat (first | (with_reducible refine NilP.mk ?_) | ((with_reducible refine RunN.isLoad ?_); (first | refine h.load2 0 0 ⟨_, rfl, rfl⟩ rfl ?_ | refine h.loadB 0 0 ⟨_, rfl, rfl⟩ rfl rfl ?_ | refine h.load2 1 0 ⟨_, rfl, rfl⟩ rfl ?_ | refine h.loadB 1 0 ⟨_, rfl, rfl⟩ rfl rfl ?_ | refine h.load2 2 0 ⟨_, rfl, rfl⟩ rfl ?_ | refine h.loadB 2 0 ⟨_, rfl, rfl⟩ rfl rfl ?_ | refine h.load2 3 0 ⟨_, rfl, rfl⟩ rfl ?_ | refine h.loadB 3 0 ⟨_, rfl, rfl⟩ rfl rfl ?_ | refine h.load2 4 0 ⟨_, rfl, rfl⟩ rfl ?_ | refine h.loadB 4 0 ⟨_, rfl, rfl⟩ rfl rfl ?_ | refine h.drew.load2 0 0 ⟨_, rfl, rfl⟩ rfl ?_ | refine h.drew.loadB 0 0 ⟨_, rfl, rfl⟩ rfl rfl ?_ | refine h.drew.load2 1 0 ⟨_, rfl, rfl⟩ rfl ?_ | refine h.drew.loadB 1 0 ⟨_, rfl, rfl⟩ rfl rfl ?_ | refine h.drew.load2 2 0 ⟨_, rfl, rfl⟩ rfl ?_ | refine h.drew.loadB 2 0 ⟨_, rfl, rfl⟩ rfl rfl ?_ | refine h.drew.load2 3 0 ⟨_, rfl, rfl⟩ rfl ?_ | refine h.drew.loadB 3 0 ⟨_, rfl, rfl⟩ rfl rfl ?_ | refine h.drew.load2 4 0 ⟨_, rfl, rfl⟩ rfl ?_ | refine h.drew.loadB 4 0 ⟨_, rfl, rfl⟩ rfl rfl ?_)) | ((with_reducible refine ReadN.isLoad ?_); (first | refine h.read2 0 0 ⟨_, rfl, rfl⟩ rfl ?_ | refine h.readB 0 0 ⟨_, rfl, rfl⟩ rfl rfl ?_ | refine h.read2 1 0 ⟨_, rfl, rfl⟩ rfl ?_ | refine h.readB 1 0 ⟨_, rfl, rfl⟩ rfl rfl ?_ | refine h.read2 2 0 ⟨_, rfl, rfl⟩ rfl ?_ | refine h.readB 2 0 ⟨_, rfl, rfl⟩ rfl rfl ?_ | refine h.read2 3 0 ⟨_, rfl, rfl⟩ rfl ?_ | refine h.readB 3 0 ⟨_, rfl, rfl⟩ rfl rfl ?_ | refine h.read2 4 0 ⟨_, rfl, rfl⟩ rfl ?_ | refine h.readB 4 0 ⟨_, rfl, rfl⟩ rfl rfl ?_ | refine h.drew.read2 0 0 ⟨_, rfl, rfl⟩ rfl ?_ | refine h.drew.readB 0 0 ⟨_, rfl, rfl⟩ rfl rfl ?_ | refine h.drew.read2 1 0 ⟨_, rfl, rfl⟩ rfl ?_ | refine h.drew.readB 1 0 ⟨_, rfl, rfl⟩ rfl rfl ?_ | refine h.drew.read2 2 0 ⟨_, rfl, rfl⟩ rfl ?_ | refine h.drew.readB 2 0 ⟨_, rfl, rfl⟩ rfl rfl ?_ | refine h.drew.read2 3 0 ⟨_, rfl, rfl⟩ rfl ?_ | refine h.drew.readB 3 0 ⟨_, rfl, rfl⟩ rfl rfl ?_ | refine h.drew.read2 4 0 ⟨_, rfl, rfl⟩ rfl ?_ | refine h.drew.readB 4 0 ⟨_, rfl, rfl⟩ rfl rfl ?_)) | ((with_reducible refine StillV.isLoad ?_); (first | refine ⟨h.stillB 0 0 ⟨_, rfl, rfl⟩ rfl rfl, ?_⟩ | refine ⟨h.still2 0 0 ⟨_, rfl, rfl⟩ rfl, ?_⟩ | refine ⟨h.stillB 1 0 ⟨_, rfl, rfl⟩ rfl rfl, ?_⟩ | refine ⟨h.still2 1 0 ⟨_, rfl, rfl⟩ rfl, ?_⟩ | refine ⟨h.stillB 2 0 ⟨_, rfl, rfl⟩ rfl rfl, ?_⟩ | refine ⟨h.still2 2 0 ⟨_, rfl, rfl⟩ rfl, ?_⟩ | refine ⟨h.stillB 3 0 ⟨_, rfl, rfl⟩ rfl rfl, ?_⟩ | refine ⟨h.still2 3 0 ⟨_, rfl, rfl⟩ rfl, ?_⟩ | refine ⟨h.stillB 4 0 ⟨_, rfl, rfl⟩ rfl rfl, ?_⟩ | refine ⟨h.still2 4 0 ⟨_, rfl, rfl⟩ rfl, ?_⟩)) | ((with_reducible refine RunU.isStor ?_); (first | (refine h.stor2 0 0 ⟨_, rfl, rfl⟩ rfl ?_; intro w h; dsimp only [updG, setO] at h) | (refine h.storB 0 0 ⟨_, rfl, rfl⟩ rfl rfl rfl ?_; intro w h; dsimp only [updG, setO] at h) | (refine h.stor2 1 0 ⟨_, rfl, rfl⟩ rfl ?_; intro w h; dsimp only [updG, setO] at h) | (refine h.storB 1 0 ⟨_, rfl, rfl⟩ rfl rfl rfl ?_; intro w h; dsimp only [updG, setO] at h) | (refine h.stor2 2 0 ⟨_, rfl, rfl⟩ rfl ?_; intro w h; dsimp only [updG, setO] at h) | (refine h.storB 2 0 ⟨_, rfl, rfl⟩ rfl rfl rfl ?_; intro w h; dsimp only [updG, setO] at h) | (refine h.stor2 3 0 ⟨_, rfl, rfl⟩ rfl ?_; intro w h; dsimp only [updG, setO] at h) | (refine h.storB 3 0 ⟨_, rfl, rfl⟩ rfl rfl rfl ?_; intro w h; dsimp only [updG, setO] at h) | (refine h.stor2 4 0 ⟨_, rfl, rfl⟩ rfl ?_; intro w h; dsimp only [updG, setO] at h) | (refine h.storB 4 0 ⟨_, rfl, rfl⟩ rfl rfl rfl ?_; intro w h; dsimp only [updG, setO] at h) | (refine h.drew.stor2 0 0 ⟨_, rfl, rfl⟩ rfl ?_; intro w h; dsimp only [updG, setO] at h) | (refine h.drew.storB 0 0 ⟨_, rfl, rfl⟩ rfl rfl rfl ?_; intro w h; dsimp only [updG, setO] at h) | (refine h.drew.stor2 1 0 ⟨_, rfl, rfl⟩ rfl ?_; intro w h; dsimp only [updG, setO] at h) | (refine h.drew.storB 1 0 ⟨_, rfl, rfl⟩ rfl rfl rfl ?_; intro w h; dsimp only [updG, setO] at h) | (refine h.drew.stor2 2 0 ⟨_, rfl, rfl⟩ rfl ?_; intro w h; dsimp only [updG, setO] at h) | (refine h.drew.storB 2 0 ⟨_, rfl, rfl⟩ rfl rfl rfl ?_; intro w h; dsimp only [updG, setO] at h) | (refine h.drew.stor2 3 0 ⟨_, rfl, rfl⟩ rfl ?_; intro w h; dsimp only [updG, setO] at h) | (refine h.drew.storB 3 0 ⟨_, rfl, rfl⟩ rfl rfl rfl ?_; intro w h; dsimp only [updG, setO] at h) | (refine h.drew.stor2 4 0 ⟨_, rfl, rfl⟩ rfl ?_; intro w h; dsimp only [updG, setO] at h) | (refine h.drew.storB 4 0 ⟨_, rfl, rfl⟩ rfl rfl rfl ?_; intro w h; dsimp only [updG, setO] at h))) | ((with_reducible refine RunN.isBox ?_); (first | (refine h.newB run_boxA rfl ?_; intro bn w h; try dsimp only at h; have h := h.ord 2 [1, 0]; dsimp only [pick, nthO, dropO] at h) | (refine h.drew.newB run_boxA rfl ?_; intro bn w h; try dsimp only at h; have h := h.ord 2 [1, 0]; dsimp only [pick, nthO, dropO] at h))) | ((with_reducible refine RunN.isNew ?_); (first | (refine h.newB (NewC.run _) rfl ?_; intro bn w h; have h := h.ord 2 [1, 0]; dsimp only [pick, nthO, dropO] at h) | (refine h.drew.newB (NewC.run _) rfl ?_; intro bn w h; have h := h.ord 2 [1, 0]; dsimp only [pick, nthO, dropO] at h))) | (refine RunN.k2Eq ?_) | (refine RunN.k2Ne ?_) | (refine ReadN.k2Eq ?_) | (refine ReadN.k2Ne ?_))
  rw [wr (by omega)]
  refine h.storA 2 0 ⟨_, rfl, rfl⟩ (t' := 62) (n := 5) (j := 0) rfl (ds := sgv (e.seg p s)) rfl rfl rfl ?_
  intro w3 h
  dsimp only [updG, setO] at h
  refine ReadN.of (kd := Kds) (x := sgt (e.seg p s)) (h.run_loadA (k := 2) (i := 0) (b := b2) (t := 62) (cs := sgv (e.seg p s)) ⟨_, rfl, rfl⟩ (t' := 62) (n := 5) (j := 0) rfl (vs := sgv (e.seg p s)) rfl rfl) ?_
  refine ⟨s, rfl, ?_⟩
  exact (h.drop 1).drop 1
end Go.Proofs.Ytodgnpmljdopiaa

/- The link in memory: Under. -/
namespace Go.Proofs.Ytodgnpmljdopiaa
open Go Go.Fw Go.RowKit
set_option linter.unusedVariables false
set_option linter.unusedSimpArgs false
set_option maxRecDepth 4000
set_option maxHeartbeats 2000000
variable {w0 w : World} {F G : Grps}

theorem snocAt (P : Grps) {x : Ent} {B : List Ent} (h : St w0 w (P ++ [x] :: B :: F)) : St w0 w (P ++ (B ++ [x]) :: F) := by
  refine h.perm ?_
  simp only [List.flatten_append, List.flatten_cons, List.append_assoc]
  refine List.Perm.append_left _ ?_
  exact (List.perm_middle (a := x) (l₁ := B) (l₂ := F.flatten)).symm
theorem joinAt (P : Grps) {A B : List Ent} (h : St w0 w (P ++ A :: B :: F)) : St w0 w (P ++ (B ++ A) :: F) := by
  refine h.perm ?_
  simp only [List.flatten_append, List.flatten_cons, List.append_assoc]
  refine List.Perm.append_left _ ?_
  rw [← List.append_assoc, ← List.append_assoc]
  exact List.Perm.append_right _ List.perm_append_comm
abbrev Pl := Int × Int × Int × Int × List UInt8
def Sg.pl (g : Sg) : Pl := (g.fr, g.to, g.seq, g.ack, g.d.2)
def Lk.tells (e : Lk) (ps : List Pc) : List Pl := ps.map fun p => (e.me, e.peer, p.1, e.want - 1, p.2.2)
/-- A list of segments in memory: two groups. -/
def outE (o : Sl) (gs : List Sg) : List Ent := [.row 62 5 o (gs.flatMap sgv)]
def outD (gs : List Sg) : List Ent := gs.map fun g => brow g.d
theorem out_len {o : Sl} {gs : List Sg} (h : Rd w o 5 (gs.flatMap sgv)) : o.len = gs.length := by
  have := h.1; rw [flat_len sgv_len] at this; omega
theorem dat_sees {e : Lk} {p : Pc} (hp : p ∈ e.un ++ e.bx) : SeesG w0 (dat e :: F) p.2.1 1 (bys p.2.2) := fun w h =>
  ((h.memG 0 rfl (List.mem_map.2 ⟨p, hp, rfl⟩) : (brow p.2).ok w w0.heap.size)).1.rd
theorem outD_sees {gs : List Sg} {g : Sg} (hp : g ∈ gs) : SeesG w0 (outD gs :: F) g.d.1 1 (bys g.d.2) := fun w h =>
  ((h.memG 0 rfl (List.mem_map.2 ⟨g, hp, rfl⟩) : (brow g.d).ok w w0.heap.size)).1.rd
theorem bs33' (w : World) (g : Sg) : (Instr.buildSlice 33 1 #[(0, .agg #[.int .i64 (sgt g).1, .int .i64 (sgt g).2.1, .int .i64 (sgt g).2.2.1, .int .i64 (sgt g).2.2.2.1, .slice (sgt g).2.2.2.2.1.a (sgt g).2.2.2.2.1.len (sgt g).2.2.2.2.1.cap])]).run Try.prog w = .ok (.slice (some ⟨w.heap.size, 0, none⟩) 1 1) (w.alloc (.cells ⟨sgv g⟩ 62)) := bs33 w _ _ _ _ _ _ _
/-- A parcel's segment onto the list. -/
theorem emit (e : Lm) {D : List Ent} {o : Sl} {gs : List Sg} (h : St w0 w (lmE e :: D :: outE o gs :: outD gs :: F)) (hw : 1 ≤ e.want ∧ e.want ≤ 1099511627777) {p : Pc} (hp : SeesG w0 (D :: outE o gs :: outD gs :: F) p.2.1 1 (bys p.2.2)) (hl : p.2.2.length ≤ 1048576) (hg : gs.length ≤ 1048576)
    {K : Sl → World → Prop} (hk : ∀ (o' : Sl) (g : Sg) w', g = e.seg p g.d.1 → o'.len = o.len + 1 → St w0 w' (lmE e :: D :: outE o' (gs ++ [g]) :: outD (gs ++ [g]) :: F) → K o' w') :
    CallK Try.prog (.agg (.cons (.int .i64) (.cons (.int .i64) (.cons (.int .i64) (.cons (.int .i64) (.cons .sl .nilT)))))) 28 #[.pointer e.p, .agg #[.int .i64 p.1, .slice p.2.1.a p.2.1.len p.2.1.cap]] w fun t18 w =>
      RunN Try.prog .sl (V (Instr.buildSlice 33 1 #[(0, .agg #[.int .i64 t18.1, .int .i64 t18.2.1, .int .i64 t18.2.2.1, .int .i64 t18.2.2.2.1, .slice t18.2.2.2.2.1.a t18.2.2.2.2.1.len t18.2.2.2.2.1.cap])])) w fun t19 w =>
      RunN Try.prog .sl (V (Builtin.append_ #[33, 33] 33 #[.slice o.a o.len o.cap, .slice t19.a t19.len t19.cap])) w fun t20 w => K t20 w := by
  refine (segment_st h hw hp hl).mono ?_
  rintro v w1 ⟨s, rfl, h⟩
  refine h.newS 5 (bs33' _ (e.seg p s)) rfl rfl rfl ?_
  intro u w2 hu1 hu2 _ h
  have hol := out_len (h.rd (k := 4) (i := 0) (E := 62) (sz := 5) (s := o) (vs := gs.flatMap sgv) ⟨_, rfl, rfl⟩)
  refine h.app 4 0 ⟨_, rfl, rfl⟩ (h.rd (k := 0) (i := 0) ⟨_, rfl, rfl⟩) (sgv_one _) (by dsimp only [maxLen]; omega) (by omega) ?_
  intro o' w3 hl3 h
  have h := h.drop 0
  dsimp only [delO, updG, setO] at h
  have h := h.ord 5 [1, 2, 3, 0, 4]
  dsimp only [pick, nthO, dropO] at h
  refine hk o' (e.seg p s) w3 rfl (by omega) ?_
  have h := snocAt [lmE e, D, [Ent.row 62 5 o' (gs.flatMap sgv ++ sgv (e.seg p s))]] h
  have e1 : outE o' (gs ++ [e.seg p s]) = [Ent.row 62 5 o' (gs.flatMap sgv ++ sgv (e.seg p s))] := by simp [outE]
  have e2 : outD (gs ++ [e.seg p s]) = outD gs ++ [brow (s, p.2.2)] := by simp [outD, Lk.seg]
  rw [e1, e2]
  exact h
theorem seg_pl {e : Lk} {p : Pc} {g : Sg} (h : g = e.seg p g.d.1) : g.pl = (e.me, e.peer, p.1, e.want - 1, p.2.2) := by rw [h]; rfl
theorem under_st {e : Lm} (h : St w0 w (lmE e :: dat e.toLk :: F)) (hw : e.wf) : CallK Try.prog .sl 14 #[.pointer e.p] w
    fun (o : Sl) w' => ∃ gs, gs.map Sg.pl = e.tells e.un ∧ o.len = gs.length ∧ St w0 w' (lmE e :: dat e.toLk :: outE o gs :: outD gs :: F) := by
  refine T14.calls ?_
  unfold T14
  have hul := us_len (h.rd (k := 0) (i := 3) ⟨_, rfl, rfl⟩)
  have hcnt := hw.cnt; have hwin := hw.win
  repeat (first | (with_reducible refine NilP.mk ?_) | ((with_reducible refine RunN.isLoad ?_); (first | refine h.load2 0 0 ⟨_, rfl, rfl⟩ rfl ?_ | refine h.loadB 0 0 ⟨_, rfl, rfl⟩ rfl rfl ?_ | refine h.drew.load2 0 0 ⟨_, rfl, rfl⟩ rfl ?_ | refine h.drew.loadB 0 0 ⟨_, rfl, rfl⟩ rfl rfl ?_)) | ((with_reducible refine ReadN.isLoad ?_); (first | refine h.read2 0 0 ⟨_, rfl, rfl⟩ rfl ?_ | refine h.readB 0 0 ⟨_, rfl, rfl⟩ rfl rfl ?_ | refine h.drew.read2 0 0 ⟨_, rfl, rfl⟩ rfl ?_ | refine h.drew.readB 0 0 ⟨_, rfl, rfl⟩ rfl rfl ?_)) | ((with_reducible refine StillV.isLoad ?_); (first | refine ⟨h.stillB 0 0 ⟨_, rfl, rfl⟩ rfl rfl, ?_⟩ | refine ⟨h.still2 0 0 ⟨_, rfl, rfl⟩ rfl, ?_⟩)) | ((with_reducible refine RunU.isStor ?_); (first | (refine h.stor2 0 0 ⟨_, rfl, rfl⟩ rfl ?_; intro w h; dsimp only [updG, setO] at h) | (refine h.storB 0 0 ⟨_, rfl, rfl⟩ rfl rfl rfl ?_; intro w h; dsimp only [updG, setO] at h) | (refine h.drew.stor2 0 0 ⟨_, rfl, rfl⟩ rfl ?_; intro w h; dsimp only [updG, setO] at h) | (refine h.drew.storB 0 0 ⟨_, rfl, rfl⟩ rfl rfl rfl ?_; intro w h; dsimp only [updG, setO] at h))) | ((with_reducible refine RunN.isBox ?_); (first | (refine h.newB run_boxA rfl ?_; intro bn w h; try dsimp only at h; have h := h.ord 2 [1, 0]; dsimp only [pick, nthO, dropO] at h) | (refine h.drew.newB run_boxA rfl ?_; intro bn w h; try dsimp only at h; have h := h.ord 2 [1, 0]; dsimp only [pick, nthO, dropO] at h))) | ((with_reducible refine RunN.isNew ?_); (first | (refine h.newB (NewC.run _) rfl ?_; intro bn w h; have h := h.ord 2 [1, 0]; dsimp only [pick, nthO, dropO] at h) | (refine h.drew.newB (NewC.run _) rfl ?_; intro bn w h; have h := h.ord 2 [1, 0]; dsimp only [pick, nthO, dropO] at h))) | (refine RunN.k2Eq ?_) | (refine RunN.k2Ne ?_) | (refine ReadN.k2Eq ?_) | (refine ReadN.k2Ne ?_))
  have h : St w0 w (lmE e :: dat e.toLk :: outE ⟨none, 0, 0⟩ [] :: outD [] :: F) := by
    have h1 := h.nilrow 62 5
    have h2 := h1.ord 3 [1, 2, 0]
    dsimp only [pick, nthO, dropO] at h2
    exact h2.perm (by simp [outE, outD])
  refine LoopX.mk (fun st w' => ∃ (o : Sl) (m : Nat) (gs : List Sg), st = (o, (m : Int), ()) ∧ m ≤ e.un.length ∧ gs.map Sg.pl = e.tells (e.un.take m) ∧ o.len = gs.length ∧ gs.length = m ∧ St w0 w' (lmE e :: dat e.toLk :: outE o gs :: outD gs :: F)) (fun st => e.un.length - st.2.1.toNat) ⟨_, 0, [], rfl, Nat.zero_le _, rfl, rfl, rfl, h⟩ ?_
  clear h
  rintro _ w1 ⟨o, m, gs, rfl, hm, hgs, hol, hgl, h⟩ k hk
  dsimp only at hk ⊢
  rw [hul]
  rw [SplitB_iff]
  refine ⟨fun hc => ?_, fun hc => ?_⟩
  · have hc : m < e.un.length := by have : (m : Int) < (e.un.length : Int) := of_decide_eq_true hc
                                    omega
    have hem : IntKind.i64.wrap ((m : Int) + 1) = ((m + 1 : Nat) : Int) := by rw [wr (by omega)]; omega
    rw [hem, ← hul]
    have hrr := h.rd (k := 0) (i := 3) (E := 81) (sz := 2) (s := e.us) (vs := e.un.flatMap pcv) ⟨_, rfl, rfl⟩
    refine hrr.idxK m rfl (by omega) ?_
    intro g0 o0 ha
    refine hrr.elA ha (m * 2) rfl (kd := Kdp) (pct e.un[m]) (ds := pcv e.un[m]) (flat_at pcv_len _ _ hc) ?_
    refine h.newB (NewC.run _) rfl ?_
    intro b w2 h
    refine h.storA 0 0 ⟨_, rfl, rfl⟩ (t' := 81) (n := 2) (j := 0) rfl (ds := pcv e.un[m]) rfl rfl rfl ?_
    intro w3 h
    refine RunN.of (kd := Kdp) (x := pct e.un[m]) (h.run_loadA (k := 0) (i := 0) (b := b) (t := 81) (cs := pcv e.un[m]) ⟨_, rfl, rfl⟩ (t' := 81) (n := 2) (j := 0) rfl (vs := pcv e.un[m]) rfl rfl) ?_
    have h := h.drop 0
    have hpm : e.un[m] ∈ e.un ++ e.bx := List.mem_append_left _ (List.getElem_mem hc)
    have := hw.lens _ hpm
    refine emit e h hw.want (p := e.un[m]) (dat_sees hpm) (by omega) (by omega) ?_
    intro o' g w4 hg ho' h
    refine hk _ _ ⟨o', m + 1, gs ++ [g], rfl, by omega, ?_, by simp; omega, by simp; omega, h⟩ (by dsimp only; omega)
    rw [List.map_append, hgs, List.take_succ_eq_append_getElem hc, Lk.tells, Lk.tells, List.map_append]
    simp [seg_pl hg]
  · have hc : m = e.un.length := by have : ¬ (m : Int) < (e.un.length : Int) := of_decide_eq_false hc
                                    omega
    refine ⟨gs, ?_, hol, h⟩
    rw [hgs, hc, List.take_length]
end Go.Proofs.Ytodgnpmljdopiaa

/- The link in memory: Out. -/
namespace Go.Proofs.Ytodgnpmljdopiaa
open Go Go.Fw Go.RowKit
set_option linter.unusedVariables false
set_option linter.unusedSimpArgs false
set_option maxRecDepth 4000
set_option maxHeartbeats 2000000
variable {w0 w : World} {F G : Grps}

def Lm.out1 (e : Lm) (m : Nat) (us : Sl) : Lm :=
  { e with un := e.un ++ e.bx.take m, bx := e.bx.drop m, gone := e.gone + m, ag := if e.un.length = 0 ∧ 0 < m then 0 else e.ag, cr := e.cr + m, us := us }
def Lm.outed (e : Lm) (us : Sl) : Lm :=
  { e with un := e.un ++ e.bx, bx := [], gone := e.last, ag := if e.un.length = 0 ∧ 0 < e.bx.length then 0 else e.ag, cr := e.cr + e.bx.length, us := us, ow := false, du := false }
def ackP : Pc := (0, ⟨none, 0, 0⟩, [])
def Lk.outs (e : Lk) : List Pc := (if e.ow = true then [ackP] else []) ++ (if e.du = true then e.un else []) ++ e.bx
theorem out1_dat (e : Lm) (m : Nat) (us : Sl) : dat (e.out1 m us).toLk = dat e.toLk := by
  simp [dat, Lm.out1]
theorem out1_wf {e : Lm} (hw : e.wf) {m : Nat} (hm : m ≤ e.bx.length) (us : Sl) : (e.out1 m us).wf := by
  have hl : (e.un ++ e.bx.take m).length + (e.bx.drop m).length = e.un.length + e.bx.length := by simp; omega
  have he : e.un ++ e.bx.take m ++ e.bx.drop m = e.un ++ e.bx := by simp
  have hc := hw.cnt
  refine ⟨hw.me, hw.peer, hw.win, hw.res, by simp only [Lm.out1]; omega, ?_, by simp only [Lm.out1]; rw [hl]; exact hw.low, hw.last, hw.want, ?_, ?_, ?_, hw.elens, hw.erange, hw.nodup⟩
  · have := hw.gone
    simp only [Lm.out1, List.length_drop]; omega
  · simp only [Lm.out1]
    have := hw.ag
    split <;> omega
  · intro i hi
    simp only [Lm.out1] at hi ⊢
    rw [hl]
    have hi2 : i < (e.un ++ e.bx).length := by rw [← he]; exact hi
    have := hw.seq i hi2
    rw [← this]
    congr 1
    simp only [he]
  · intro p hp
    simp only [Lm.out1, he] at hp
    exact hw.lens p hp
theorem outed_wf {e : Lm} (hw : e.wf) (us : Sl) : (e.outed us).wf := by
  have h := out1_wf hw (Nat.le_refl e.bx.length) us
  have e1 : (e.outed us).toLk = { (e.out1 e.bx.length us).toLk with ow := false, du := false } := by
    have := hw.gone
    simp [Lm.outed, Lm.out1]; omega
  rw [e1]
  exact ⟨h.me, h.peer, h.win, h.res, h.cnt, h.gone, h.low, h.last, h.want, h.ag, h.seq, h.lens, h.elens, h.erange, h.nodup⟩
theorem bs75' (w : World) (p : Pc) : (Instr.buildSlice 75 1 #[(0, .agg #[.int .i64 (pct p).1, .slice (pct p).2.1.a (pct p).2.1.len (pct p).2.1.cap])]).run Try.prog w = .ok (.slice (some ⟨w.heap.size, 0, none⟩) 1 1) (w.alloc (.cells ⟨pcv p⟩ 81)) := bs75 w _ _ _ _
theorem out_st {e : Lm} (h : St w0 w (lmE e :: dat e.toLk :: F)) (hw : e.wf) : CallK Try.prog .sl 13 #[.pointer e.p] w
    fun (o : Sl) w' => ∃ us gs, gs.map Sg.pl = e.tells e.outs ∧ o.len = gs.length ∧ St w0 w' (lmE (e.outed us) :: dat (e.outed us).toLk :: outE o gs :: outD gs :: F) := by
  refine T13.calls ?_
  unfold T13
  have hcnt := hw.cnt; have hwin := hw.win
  refine JoinX.mk (fun (y : Sl × Unit) w' => ∃ gs, gs.map Sg.pl = e.tells (if e.ow = true then [ackP] else []) ∧ y.1.len = gs.length ∧ gs.length ≤ 1 ∧ St w0 w' (lmE e :: dat e.toLk :: outE y.1 gs :: outD gs :: F)) ?_ ?_
  · rintro ⟨o, ⟨⟩⟩ w1 ⟨gs, hgs, hol, hgl, h⟩
    dsimp only at hol h ⊢
    refine JoinX.mk (fun (y : Sl × Unit) w' => ∃ gs, gs.map Sg.pl = e.tells ((if e.ow = true then [ackP] else []) ++ (if e.du = true then e.un else [])) ∧ y.1.len = gs.length ∧ gs.length ≤ 1 + e.un.length ∧ St w0 w' (lmE e :: dat e.toLk :: outE y.1 gs :: outD gs :: F)) ?_ ?_
    · clear h hgs hol hgl
      rintro ⟨o, ⟨⟩⟩ w1 ⟨gs, hgs, hol, hgl, h⟩
      dsimp only at hol h ⊢
      have hul := us_len (h.rd (k := 0) (i := 3) ⟨_, rfl, rfl⟩)
      repeat (first | (with_reducible refine NilP.mk ?_) | ((with_reducible refine RunN.isLoad ?_); (first | refine h.load2 0 0 ⟨_, rfl, rfl⟩ rfl ?_ | refine h.loadB 0 0 ⟨_, rfl, rfl⟩ rfl rfl ?_ | refine h.drew.load2 0 0 ⟨_, rfl, rfl⟩ rfl ?_ | refine h.drew.loadB 0 0 ⟨_, rfl, rfl⟩ rfl rfl ?_)) | ((with_reducible refine ReadN.isLoad ?_); (first | refine h.read2 0 0 ⟨_, rfl, rfl⟩ rfl ?_ | refine h.readB 0 0 ⟨_, rfl, rfl⟩ rfl rfl ?_ | refine h.drew.read2 0 0 ⟨_, rfl, rfl⟩ rfl ?_ | refine h.drew.readB 0 0 ⟨_, rfl, rfl⟩ rfl rfl ?_)) | ((with_reducible refine StillV.isLoad ?_); (first | refine ⟨h.stillB 0 0 ⟨_, rfl, rfl⟩ rfl rfl, ?_⟩ | refine ⟨h.still2 0 0 ⟨_, rfl, rfl⟩ rfl, ?_⟩)) | ((with_reducible refine RunU.isStor ?_); (first | (refine h.stor2 0 0 ⟨_, rfl, rfl⟩ rfl ?_; intro w h; dsimp only [updG, setO] at h) | (refine h.storB 0 0 ⟨_, rfl, rfl⟩ rfl rfl rfl ?_; intro w h; dsimp only [updG, setO] at h) | (refine h.drew.stor2 0 0 ⟨_, rfl, rfl⟩ rfl ?_; intro w h; dsimp only [updG, setO] at h) | (refine h.drew.storB 0 0 ⟨_, rfl, rfl⟩ rfl rfl rfl ?_; intro w h; dsimp only [updG, setO] at h))) | ((with_reducible refine RunN.isBox ?_); (first | (refine h.newB run_boxA rfl ?_; intro bn w h; try dsimp only at h; have h := h.ord 2 [1, 0]; dsimp only [pick, nthO, dropO] at h) | (refine h.drew.newB run_boxA rfl ?_; intro bn w h; try dsimp only at h; have h := h.ord 2 [1, 0]; dsimp only [pick, nthO, dropO] at h))) | ((with_reducible refine RunN.isNew ?_); (first | (refine h.newB (NewC.run _) rfl ?_; intro bn w h; have h := h.ord 2 [1, 0]; dsimp only [pick, nthO, dropO] at h) | (refine h.drew.newB (NewC.run _) rfl ?_; intro bn w h; have h := h.ord 2 [1, 0]; dsimp only [pick, nthO, dropO] at h))) | (refine RunN.k2Eq ?_) | (refine RunN.k2Ne ?_) | (refine ReadN.k2Eq ?_) | (refine ReadN.k2Ne ?_))
      have h : St w0 w1 (lmE (e.out1 0 e.us) :: dat (e.out1 0 e.us).toLk :: outE o gs :: outD gs :: F) := by
        have e0 : e.out1 0 e.us = e := by simp [Lm.out1]
        rw [e0]; exact h
      refine LoopX.mk (fun st w' => ∃ (o : Sl) (m : Nat) (us : Sl) (gs : List Sg), st = (o, ()) ∧ m ≤ e.bx.length ∧ gs.map Sg.pl = e.tells ((if e.ow = true then [ackP] else []) ++ (if e.du = true then e.un else []) ++ e.bx.take m) ∧ o.len = gs.length ∧ gs.length ≤ 1 + e.un.length + m ∧ m ≤ gs.length ∧ St w0 w' (lmE (e.out1 m us) :: dat (e.out1 m us).toLk :: outE o gs :: outD gs :: F)) (fun st => 1 + e.un.length + e.bx.length - st.1.len) ⟨_, 0, _, gs, rfl, Nat.zero_le _, by rw [hgs]; simp, hol, by omega, Nat.zero_le _, h⟩ ?_
      clear h hgs hol hgl
      rintro _ w2 ⟨o, m, us, gs, rfl, hm, hgs, hol, hgl, hgm, h⟩ k hk
      dsimp only at hk ⊢
      have hw1 := out1_wf hw hm us
      have ep : e.p = (e.out1 m us).p := rfl
      refine NilP.mk ?_
      refine h.loadB 0 0 ⟨_, rfl, rfl⟩ rfl (kd := .chan) (x := some e.ch) rfl ?_
      by_cases hc : m < e.bx.length
      · have hbx : (e.out1 m us).bx = e.bx[m] :: e.bx.drop (m + 1) := List.drop_eq_getElem_cons hc
        have hlm : lmE (e.out1 m us) = [.cel e.cb 78 (lmC (e.out1 m us)), .obj e.ch (.chan e.win ⟨Kdp.val (pct e.bx[m]) :: (e.bx.drop (m + 1)).map pco⟩ false e.cs (e.cr + m) false), .obj e.mb (m1o (e.ea.map eav) e.mc), .row 81 2 us ((e.un ++ e.bx.take m).flatMap pcv)] := by
          rw [lmE, hbx]; rfl
        rw [hlm] at h
        refine h.recv 0 1 (kd := Kdp) (x := pct e.bx[m]) ⟨_, rfl, rfl⟩ (zero81 _) ?_
        intro w3 h
        dsimp only [updG, setO] at h
        rw [SplitB_iff]
        refine ⟨fun _ => ?_, fun hf => (by cases hf)⟩
        refine h.newB (NewC.run _) rfl ?_
        intro b w4 h
        refine h.storA 0 0 ⟨_, rfl, rfl⟩ (t' := 81) (n := 2) (j := 0) rfl (ds := pcv e.bx[m]) rfl rfl rfl ?_
        intro w5 h
        refine RunN.of (kd := Kdp) (x := pct e.bx[m]) (h.run_loadA (k := 0) (i := 0) (b := b) (t := 81) (cs := pcv e.bx[m]) ⟨_, rfl, rfl⟩ (t' := 81) (n := 2) (j := 0) rfl (vs := pcv e.bx[m]) rfl rfl) ?_
        have hpm : e.bx[m] ∈ e.un ++ e.bx := List.mem_append_right _ (List.getElem_mem hc)
        have hlen := hw.lens _ hpm
        have hpl : e.bx[m].1 = e.gone + (m + 1 : Nat) := by
          have h1 := hw.seq (e.un.length + m) (by simp; omega)
          rw [List.getElem_append_right (by omega)] at h1
          simp only [Nat.add_sub_cancel_left] at h1
          have := hw.gone
          rw [h1]; omega
        -- as if the parcel were not there any more
        let e' : Lm := { e.out1 m us with bx := e.bx.drop (m + 1), cr := e.cr + m + 1 }
        have hw' : e'.want = e.want := rfl
        have h : St w0 w5 ([.cel b 81 (pcv e.bx[m])] :: lmE e' :: dat (e.out1 m us).toLk :: outE o gs :: outD gs :: F) := h
        have hsee : SeesG w0 (dat (e.out1 m us).toLk :: outE o gs :: outD gs :: [.cel b 81 (pcv e.bx[m])] :: F) e.bx[m].2.1 1 (bys e.bx[m].2.2) := by
          rw [out1_dat]; exact dat_sees hpm
        have h := h.ord 5 [1, 2, 3, 4, 0]
        dsimp only [pick, nthO, dropO] at h
        refine emit e' h hw.want (p := e.bx[m]) hsee (by omega) (by omega) ?_
        intro o' g w6 hg ho' h
        refine NilP.mk ?_
        refine h.drew.readB 0 0 ⟨_, rfl, rfl⟩ rfl (kd := .sl) (x := us) rfl ?_
        refine ReadN.of (kd := Kdp) (x := pct e.bx[m]) (h.drew.run_loadA (k := 4) (i := 0) (b := b) (t := 81) (cs := pcv e.bx[m]) ⟨_, rfl, rfl⟩ (t' := 81) (n := 2) (j := 0) rfl (vs := pcv e.bx[m]) rfl rfl) ?_
        refine h.drew.newS 2 (bs75' _ e.bx[m]) rfl rfl rfl ?_
        intro u w7 hu1 hu2 _ h
        refine ⟨h.stillB 1 0 ⟨_, rfl, rfl⟩ rfl rfl, ?_⟩
        have husl : us.len = (e.un ++ e.bx.take m).length := us_len (e := e') (h.rd (k := 1) (i := 3) ⟨_, rfl, rfl⟩)
        rw [List.length_append, List.length_take] at husl
        have husl2 : e'.us.len = us.len := rfl
        refine h.app 1 3 ⟨_, rfl, rfl⟩ (h.rd (k := 0) (i := 0) ⟨_, rfl, rfl⟩) (pcv_one _) (by dsimp only [maxLen]; omega) (by omega) ?_
        intro us' w8 hl8 h
        have h := h.drop 0
        dsimp only [delO, updG, setO] at h
        refine NilP.mk ?_
        refine h.storB 0 0 ⟨_, rfl, rfl⟩ rfl rfl rfl ?_
        intro w9 h
        dsimp only [updG, setO] at h
        refine h.loadB 4 0 ⟨_, rfl, rfl⟩ rfl (kd := .int .i64) (x := e.bx[m].1) rfl ?_
        refine NilP.mk ?_
        refine h.storB 0 0 ⟨_, rfl, rfl⟩ rfl rfl rfl ?_
        intro w10 h
        dsimp only [updG, setO] at h
        have h := h.drop 4
        dsimp only [delO] at h
        have hts : (gs ++ [g]).map Sg.pl = e.tells ((if e.ow = true then [ackP] else []) ++ (if e.du = true then e.un else []) ++ e.bx.take (m + 1)) := by
          rw [List.map_append, hgs, List.take_succ_eq_append_getElem hc, ← List.append_assoc]
          have h2 := seg_pl hg
          simp only [Lk.tells, List.map_append, List.map_cons, List.map_nil, h2]
          rfl
        have hdat : dat (e.out1 m us).toLk = dat (e.out1 (m + 1) us').toLk := by rw [out1_dat, out1_dat]
        have hun : (e.un ++ e.bx.take (m + 1)).flatMap pcv = (e.un ++ e.bx.take m).flatMap pcv ++ pcv e.bx[m] := by
          rw [List.take_succ_eq_append_getElem hc, ← List.append_assoc, List.flatMap_append]
          congr 1
          first | done | simp
        have hfin : ∀ (a : Int), a = (if e.un.length = 0 ∧ 0 < m + 1 then 0 else e.ag) →
            lmE (e.out1 (m + 1) us') = [.cel e.cb 78 [.int .i64 e.me, .int .i64 e.peer, .int .i64 (e.win : Int), .int .i64 e.res, .chan (some e.ch), .slice us'.a us'.len us'.cap, .int .i64 e.last, .int .i64 e.bx[m].1, .int .i64 e.want, .map (some e.mb), .bool e.ow, .bool e.du, .int .i64 a], .obj e.ch (.chan e.win ⟨(e.bx.drop (m + 1)).map pco⟩ false e.cs (e.cr + m + 1) false), .obj e.mb (m1o (e.ea.map eav) e.mc), .row 81 2 us' ((e.un ++ e.bx.take m).flatMap pcv ++ pcv e.bx[m])] := by
          intro a ha
          rw [ha, hpl, ← hun]
          rfl
        rw [hdat] at h
        rw [hul, SplitB_iff]
        refine ⟨fun hf => ?_, fun hf => ?_⟩
        · have hf : e.un.length = 0 := by have : ((e.un.length : Nat) : Int) = 0 := by simpa using hf
                                          omega
          refine NilP.mk ?_
          refine h.storB 0 0 ⟨_, rfl, rfl⟩ rfl rfl rfl ?_
          intro w11 h
          dsimp only [updG, setO] at h
          refine hk _ _ ⟨o', m + 1, us', gs ++ [g], rfl, by omega, hts, by simp; omega, by simp; omega, by simp; omega, ?_⟩ (by dsimp only; omega)
          rw [hfin 0 (by rw [if_pos ⟨hf, by omega⟩])]
          exact h
        · have hf : ¬ e.un.length = 0 := by intro h0; rw [h0] at hf; simp at hf
          refine hk _ _ ⟨o', m + 1, us', gs ++ [g], rfl, by omega, hts, by simp; omega, by simp; omega, by simp; omega, ?_⟩ (by dsimp only; omega)
          rw [hfin e.ag (by rw [if_neg (fun hh => hf hh.1)])]
          have : (e.out1 m us).ag = e.ag := by simp only [Lm.out1]; rw [if_neg (fun hh => hf hh.1)]
          have h2 : e'.ag = e.ag := this
          have h : St w0 w10 ([.cel e.cb 78 [.int .i64 e.me, .int .i64 e.peer, .int .i64 (e.win : Int), .int .i64 e.res, .chan (some e.ch), .slice us'.a us'.len us'.cap, .int .i64 e.last, .int .i64 e.bx[m].1, .int .i64 e.want, .map (some e.mb), .bool e.ow, .bool e.du, .int .i64 e'.ag], .obj e.ch (.chan e.win ⟨(e.bx.drop (m + 1)).map pco⟩ false e.cs (e.cr + m + 1) false), .obj e.mb (m1o (e.ea.map eav) e.mc), .row 81 2 us' ((e.un ++ e.bx.take m).flatMap pcv ++ pcv e.bx[m])] :: dat (e.out1 (m + 1) us').toLk :: outE o' (gs ++ [g]) :: outD (gs ++ [g]) :: F) := h
          rw [h2] at h
          exact h
      · have hc : m = e.bx.length := by omega
        subst hc
        have hbx : (e.out1 e.bx.length us).bx = [] := List.drop_length
        have hlm : lmE (e.out1 e.bx.length us) = [.cel e.cb 78 (lmC (e.out1 e.bx.length us)), .obj e.ch (.chan e.win ⟨[]⟩ false e.cs (e.cr + e.bx.length) false), .obj e.mb (m1o (e.ea.map eav) e.mc), .row 81 2 us ((e.un ++ e.bx.take e.bx.length).flatMap pcv)] := by
          rw [lmE, hbx]; rfl
        rw [hlm] at h
        refine h.recvNo 0 1 ⟨_, rfl, rfl⟩ (zero81 _) ?_
        rw [SplitB_iff]
        refine ⟨fun hf => (by cases hf), fun _ => ?_⟩
        refine NilP.mk ?_
        refine h.storB 0 0 ⟨_, rfl, rfl⟩ rfl rfl rfl ?_
        intro w3 h
        dsimp only [updG, setO] at h
        refine NilP.mk ?_
        refine h.storB 0 0 ⟨_, rfl, rfl⟩ rfl rfl rfl ?_
        intro w4 h
        dsimp only [updG, setO] at h
        refine ⟨us, gs, ?_, hol, ?_⟩
        · rw [hgs, List.take_length]; rfl
        · have hg := hw.gone
          have e1 : dat (e.outed us).toLk = dat (e.out1 e.bx.length us).toLk := by rw [out1_dat]; simp [dat, Lm.outed]
          have e2 : lmE (e.outed us) = [.cel e.cb 78 (setO (setO (lmC (e.out1 e.bx.length us)) 10 (.bool false)) 11 (.bool false)), .obj e.ch (.chan e.win ⟨[]⟩ false e.cs (e.cr + e.bx.length) false), .obj e.mb (m1o (e.ea.map eav) e.mc), .row 81 2 us ((e.un ++ e.bx.take e.bx.length).flatMap pcv)] := by
            have hE : e.outed us = { e.out1 e.bx.length us with ow := false, du := false } := by
              simp [Lm.outed, Lm.out1]; omega
            have hd : e.bx.drop e.bx.length = [] := List.drop_length
            rw [hE]
            simp only [lmE, lmC, Lm.out1, hd]
            rfl
          rw [e1, e2]
          exact h
    · intro k hk
      repeat (first | (with_reducible refine NilP.mk ?_) | ((with_reducible refine RunN.isLoad ?_); (first | refine h.load2 0 0 ⟨_, rfl, rfl⟩ rfl ?_ | refine h.loadB 0 0 ⟨_, rfl, rfl⟩ rfl rfl ?_ | refine h.drew.load2 0 0 ⟨_, rfl, rfl⟩ rfl ?_ | refine h.drew.loadB 0 0 ⟨_, rfl, rfl⟩ rfl rfl ?_)) | ((with_reducible refine ReadN.isLoad ?_); (first | refine h.read2 0 0 ⟨_, rfl, rfl⟩ rfl ?_ | refine h.readB 0 0 ⟨_, rfl, rfl⟩ rfl rfl ?_ | refine h.drew.read2 0 0 ⟨_, rfl, rfl⟩ rfl ?_ | refine h.drew.readB 0 0 ⟨_, rfl, rfl⟩ rfl rfl ?_)) | ((with_reducible refine StillV.isLoad ?_); (first | refine ⟨h.stillB 0 0 ⟨_, rfl, rfl⟩ rfl rfl, ?_⟩ | refine ⟨h.still2 0 0 ⟨_, rfl, rfl⟩ rfl, ?_⟩)) | ((with_reducible refine RunU.isStor ?_); (first | (refine h.stor2 0 0 ⟨_, rfl, rfl⟩ rfl ?_; intro w h; dsimp only [updG, setO] at h) | (refine h.storB 0 0 ⟨_, rfl, rfl⟩ rfl rfl rfl ?_; intro w h; dsimp only [updG, setO] at h) | (refine h.drew.stor2 0 0 ⟨_, rfl, rfl⟩ rfl ?_; intro w h; dsimp only [updG, setO] at h) | (refine h.drew.storB 0 0 ⟨_, rfl, rfl⟩ rfl rfl rfl ?_; intro w h; dsimp only [updG, setO] at h))) | ((with_reducible refine RunN.isBox ?_); (first | (refine h.newB run_boxA rfl ?_; intro bn w h; try dsimp only at h; have h := h.ord 2 [1, 0]; dsimp only [pick, nthO, dropO] at h) | (refine h.drew.newB run_boxA rfl ?_; intro bn w h; try dsimp only at h; have h := h.ord 2 [1, 0]; dsimp only [pick, nthO, dropO] at h))) | ((with_reducible refine RunN.isNew ?_); (first | (refine h.newB (NewC.run _) rfl ?_; intro bn w h; have h := h.ord 2 [1, 0]; dsimp only [pick, nthO, dropO] at h) | (refine h.drew.newB (NewC.run _) rfl ?_; intro bn w h; have h := h.ord 2 [1, 0]; dsimp only [pick, nthO, dropO] at h))) | (refine RunN.k2Eq ?_) | (refine RunN.k2Ne ?_) | (refine ReadN.k2Eq ?_) | (refine ReadN.k2Ne ?_))
      rw [SplitB_iff]
      refine ⟨fun hd => ?_, fun hd => ?_⟩
      · refine (under_st h hw).mono ?_
        rintro o2 w2 ⟨gs2, hgs2, hol2, h⟩
        have hgl2 : gs2.length = e.un.length := by have := congrArg List.length hgs2; simpa [Lk.tells] using this
        refine h.app 4 0 ⟨_, rfl, rfl⟩ (h.rd (k := 2) (i := 0) ⟨_, rfl, rfl⟩) (flat_one sgv_one _) (by dsimp only [maxLen]; omega) (by omega) ?_
        intro o' w3 hl3 h
        dsimp only [updG, setO] at h
        have h := h.ord 6 [0, 1, 4, 3, 5]
        dsimp only [pick, nthO, dropO] at h
        have h := joinAt [lmE e, dat e.toLk, [Ent.row 62 5 o' (gs.flatMap sgv ++ gs2.flatMap sgv)]] h
        refine hk _ _ ⟨gs ++ gs2, ?_, ?_, ?_, ?_⟩
        · rw [List.map_append, hgs, hgs2, hd, Lk.tells, Lk.tells, Lk.tells, ← List.map_append]; simp
        · simp; omega
        · simp; omega
        · have e1 : outE o' (gs ++ gs2) = [Ent.row 62 5 o' (gs.flatMap sgv ++ gs2.flatMap sgv)] := by simp [outE]
          have e2 : outD (gs ++ gs2) = outD gs ++ outD gs2 := by simp [outD]
          dsimp only
          rw [e1, e2]; exact h
      · refine hk _ _ ⟨gs, ?_, hol, by omega, h⟩
        rw [hgs, hd]; simp
  · intro k hk
    repeat (first | (with_reducible refine NilP.mk ?_) | ((with_reducible refine RunN.isLoad ?_); (first | refine h.load2 0 0 ⟨_, rfl, rfl⟩ rfl ?_ | refine h.loadB 0 0 ⟨_, rfl, rfl⟩ rfl rfl ?_ | refine h.drew.load2 0 0 ⟨_, rfl, rfl⟩ rfl ?_ | refine h.drew.loadB 0 0 ⟨_, rfl, rfl⟩ rfl rfl ?_)) | ((with_reducible refine ReadN.isLoad ?_); (first | refine h.read2 0 0 ⟨_, rfl, rfl⟩ rfl ?_ | refine h.readB 0 0 ⟨_, rfl, rfl⟩ rfl rfl ?_ | refine h.drew.read2 0 0 ⟨_, rfl, rfl⟩ rfl ?_ | refine h.drew.readB 0 0 ⟨_, rfl, rfl⟩ rfl rfl ?_)) | ((with_reducible refine StillV.isLoad ?_); (first | refine ⟨h.stillB 0 0 ⟨_, rfl, rfl⟩ rfl rfl, ?_⟩ | refine ⟨h.still2 0 0 ⟨_, rfl, rfl⟩ rfl, ?_⟩)) | ((with_reducible refine RunU.isStor ?_); (first | (refine h.stor2 0 0 ⟨_, rfl, rfl⟩ rfl ?_; intro w h; dsimp only [updG, setO] at h) | (refine h.storB 0 0 ⟨_, rfl, rfl⟩ rfl rfl rfl ?_; intro w h; dsimp only [updG, setO] at h) | (refine h.drew.stor2 0 0 ⟨_, rfl, rfl⟩ rfl ?_; intro w h; dsimp only [updG, setO] at h) | (refine h.drew.storB 0 0 ⟨_, rfl, rfl⟩ rfl rfl rfl ?_; intro w h; dsimp only [updG, setO] at h))) | ((with_reducible refine RunN.isBox ?_); (first | (refine h.newB run_boxA rfl ?_; intro bn w h; try dsimp only at h; have h := h.ord 2 [1, 0]; dsimp only [pick, nthO, dropO] at h) | (refine h.drew.newB run_boxA rfl ?_; intro bn w h; try dsimp only at h; have h := h.ord 2 [1, 0]; dsimp only [pick, nthO, dropO] at h))) | ((with_reducible refine RunN.isNew ?_); (first | (refine h.newB (NewC.run _) rfl ?_; intro bn w h; have h := h.ord 2 [1, 0]; dsimp only [pick, nthO, dropO] at h) | (refine h.drew.newB (NewC.run _) rfl ?_; intro bn w h; have h := h.ord 2 [1, 0]; dsimp only [pick, nthO, dropO] at h))) | (refine RunN.k2Eq ?_) | (refine RunN.k2Ne ?_) | (refine ReadN.k2Eq ?_) | (refine ReadN.k2Ne ?_))
    have h : St w0 w (lmE e :: dat e.toLk :: outE ⟨none, 0, 0⟩ [] :: outD [] :: F) := by
      have h1 := h.nilrow 62 5
      have h2 := h1.ord 3 [1, 2, 0]
      dsimp only [pick, nthO, dropO] at h2
      exact h2.perm (by simp [outE, outD])
    rw [SplitB_iff]
    refine ⟨fun hd => ?_, fun hd => ?_⟩
    · refine emit e h hw.want (p := ackP) (o := ⟨none, 0, 0⟩) (fun w _ => Rd.nil w 1) (by simp [ackP]) (by simp) ?_
      intro o' g w4 hg ho' h
      refine hk _ _ ⟨[g], ?_, ho', by simp, h⟩
      rw [hd]
      simp [Lk.tells, seg_pl hg]
    · refine hk _ _ ⟨[], ?_, rfl, by simp, h⟩
      rw [hd]; rfl
end Go.Proofs.Ytodgnpmljdopiaa

/- The link in memory: what fits, what is acknowledged. -/
namespace Go.Proofs.Ytodgnpmljdopiaa
open Go Go.Fw Go.RowKit
set_option linter.unusedVariables false
set_option linter.unusedSimpArgs false
set_option maxRecDepth 4000
set_option maxHeartbeats 2000000
variable {w0 w : World} {F G : Grps}

theorem dropIn (P : Grps) {A B : List Ent} (h : St w0 w (P ++ (A ++ B) :: F)) : St w0 w (P ++ B :: F) := by
  have h1 : St w0 w (A :: (P ++ B :: F)) := by
    refine h.perm ?_
    simp only [List.flatten_append, List.flatten_cons, List.append_assoc]
    have := (List.perm_append_comm (l₁ := P.flatten) (l₂ := A)).append_right (B ++ F.flatten)
    simpa only [List.append_assoc] using this
  exact h1.drop 0
def Lk.fits (e : Lk) (g : Sg) : Bool :=
  g.fr == e.peer && (g.to == e.me && (decide (g.seq ≥ 0) && (decide (g.seq ≤ 1099511627776) && (decide (g.ack ≥ 0) && (decide (g.ack ≤ e.gone) && ((decide (g.seq > 0) || decide (g.d.2.length = 0)) && decide (g.d.2.length ≤ 4000)))))))
theorem fits_st {e : Lm} (h : St w0 w (lmE e :: F)) {g : Sg} (hgl : g.d.1.len = g.d.2.length) : CallK Try.prog .bool 33 #[.pointer e.p, .agg #[.int .i64 g.fr, .int .i64 g.to, .int .i64 g.seq, .int .i64 g.ack, .slice g.d.1.a g.d.1.len g.d.1.cap]] w
    fun (v : Bool) w' => v = e.fits g ∧ St w0 w' (lmE e :: F) := by
  refine T33.calls (p1 := sgt g) ?_
  unfold T33
  first | refine h.newB run_boxA rfl ?_ | refine h.drew.newB run_boxA rfl ?_
  intro b3 w h
  have h := h.ord 2 [1, 0]
  dsimp only [pick, nthO, dropO] at h
  have hd : St w0 w.drew (lmE e :: F) := h.drew.drop 1
  repeat (first | (with_reducible refine NilP.mk ?_) | ((with_reducible refine RunN.isLoad ?_); (first | refine h.load2 0 0 ⟨_, rfl, rfl⟩ rfl ?_ | refine h.loadB 0 0 ⟨_, rfl, rfl⟩ rfl rfl ?_ | refine h.load2 1 0 ⟨_, rfl, rfl⟩ rfl ?_ | refine h.loadB 1 0 ⟨_, rfl, rfl⟩ rfl rfl ?_ | refine h.drew.load2 0 0 ⟨_, rfl, rfl⟩ rfl ?_ | refine h.drew.loadB 0 0 ⟨_, rfl, rfl⟩ rfl rfl ?_ | refine h.drew.load2 1 0 ⟨_, rfl, rfl⟩ rfl ?_ | refine h.drew.loadB 1 0 ⟨_, rfl, rfl⟩ rfl rfl ?_)) | ((with_reducible refine ReadN.isLoad ?_); (first | refine h.read2 0 0 ⟨_, rfl, rfl⟩ rfl ?_ | refine h.readB 0 0 ⟨_, rfl, rfl⟩ rfl rfl ?_ | refine h.read2 1 0 ⟨_, rfl, rfl⟩ rfl ?_ | refine h.readB 1 0 ⟨_, rfl, rfl⟩ rfl rfl ?_ | refine h.drew.read2 0 0 ⟨_, rfl, rfl⟩ rfl ?_ | refine h.drew.readB 0 0 ⟨_, rfl, rfl⟩ rfl rfl ?_ | refine h.drew.read2 1 0 ⟨_, rfl, rfl⟩ rfl ?_ | refine h.drew.readB 1 0 ⟨_, rfl, rfl⟩ rfl rfl ?_)) | ((with_reducible refine StillV.isLoad ?_); (first | refine ⟨h.stillB 0 0 ⟨_, rfl, rfl⟩ rfl rfl, ?_⟩ | refine ⟨h.still2 0 0 ⟨_, rfl, rfl⟩ rfl, ?_⟩ | refine ⟨h.stillB 1 0 ⟨_, rfl, rfl⟩ rfl rfl, ?_⟩ | refine ⟨h.still2 1 0 ⟨_, rfl, rfl⟩ rfl, ?_⟩)) | ((with_reducible refine RunU.isStor ?_); (first | (refine h.stor2 0 0 ⟨_, rfl, rfl⟩ rfl ?_; intro w h; dsimp only [updG, setO] at h) | (refine h.storB 0 0 ⟨_, rfl, rfl⟩ rfl rfl rfl ?_; intro w h; dsimp only [updG, setO] at h) | (refine h.stor2 1 0 ⟨_, rfl, rfl⟩ rfl ?_; intro w h; dsimp only [updG, setO] at h) | (refine h.storB 1 0 ⟨_, rfl, rfl⟩ rfl rfl rfl ?_; intro w h; dsimp only [updG, setO] at h) | (refine h.drew.stor2 0 0 ⟨_, rfl, rfl⟩ rfl ?_; intro w h; dsimp only [updG, setO] at h) | (refine h.drew.storB 0 0 ⟨_, rfl, rfl⟩ rfl rfl rfl ?_; intro w h; dsimp only [updG, setO] at h) | (refine h.drew.stor2 1 0 ⟨_, rfl, rfl⟩ rfl ?_; intro w h; dsimp only [updG, setO] at h) | (refine h.drew.storB 1 0 ⟨_, rfl, rfl⟩ rfl rfl rfl ?_; intro w h; dsimp only [updG, setO] at h))) | ((with_reducible refine RunN.isBox ?_); (first | (refine h.newB run_boxA rfl ?_; intro bn w h; try dsimp only at h; have h := h.ord 2 [1, 0]; dsimp only [pick, nthO, dropO] at h) | (refine h.drew.newB run_boxA rfl ?_; intro bn w h; try dsimp only at h; have h := h.ord 2 [1, 0]; dsimp only [pick, nthO, dropO] at h))) | ((with_reducible refine RunN.isNew ?_); (first | (refine h.newB (NewC.run _) rfl ?_; intro bn w h; have h := h.ord 2 [1, 0]; dsimp only [pick, nthO, dropO] at h) | (refine h.drew.newB (NewC.run _) rfl ?_; intro bn w h; have h := h.ord 2 [1, 0]; dsimp only [pick, nthO, dropO] at h))) | (refine RunN.k2Eq ?_) | (refine RunN.k2Ne ?_) | (refine ReadN.k2Eq ?_) | (refine ReadN.k2Ne ?_))
  rw [SplitB_iff]
  refine ⟨fun c1 => ?_, fun c1 => ?_⟩
  rotate_left
  · exact ⟨by have c1 : (g.fr == e.peer) = false := c1
              simp [Lk.fits, c1], hd⟩
  repeat (first | (with_reducible refine NilP.mk ?_) | ((with_reducible refine RunN.isLoad ?_); (first | refine h.load2 0 0 ⟨_, rfl, rfl⟩ rfl ?_ | refine h.loadB 0 0 ⟨_, rfl, rfl⟩ rfl rfl ?_ | refine h.load2 1 0 ⟨_, rfl, rfl⟩ rfl ?_ | refine h.loadB 1 0 ⟨_, rfl, rfl⟩ rfl rfl ?_ | refine h.drew.load2 0 0 ⟨_, rfl, rfl⟩ rfl ?_ | refine h.drew.loadB 0 0 ⟨_, rfl, rfl⟩ rfl rfl ?_ | refine h.drew.load2 1 0 ⟨_, rfl, rfl⟩ rfl ?_ | refine h.drew.loadB 1 0 ⟨_, rfl, rfl⟩ rfl rfl ?_)) | ((with_reducible refine ReadN.isLoad ?_); (first | refine h.read2 0 0 ⟨_, rfl, rfl⟩ rfl ?_ | refine h.readB 0 0 ⟨_, rfl, rfl⟩ rfl rfl ?_ | refine h.read2 1 0 ⟨_, rfl, rfl⟩ rfl ?_ | refine h.readB 1 0 ⟨_, rfl, rfl⟩ rfl rfl ?_ | refine h.drew.read2 0 0 ⟨_, rfl, rfl⟩ rfl ?_ | refine h.drew.readB 0 0 ⟨_, rfl, rfl⟩ rfl rfl ?_ | refine h.drew.read2 1 0 ⟨_, rfl, rfl⟩ rfl ?_ | refine h.drew.readB 1 0 ⟨_, rfl, rfl⟩ rfl rfl ?_)) | ((with_reducible refine StillV.isLoad ?_); (first | refine ⟨h.stillB 0 0 ⟨_, rfl, rfl⟩ rfl rfl, ?_⟩ | refine ⟨h.still2 0 0 ⟨_, rfl, rfl⟩ rfl, ?_⟩ | refine ⟨h.stillB 1 0 ⟨_, rfl, rfl⟩ rfl rfl, ?_⟩ | refine ⟨h.still2 1 0 ⟨_, rfl, rfl⟩ rfl, ?_⟩)) | ((with_reducible refine RunU.isStor ?_); (first | (refine h.stor2 0 0 ⟨_, rfl, rfl⟩ rfl ?_; intro w h; dsimp only [updG, setO] at h) | (refine h.storB 0 0 ⟨_, rfl, rfl⟩ rfl rfl rfl ?_; intro w h; dsimp only [updG, setO] at h) | (refine h.stor2 1 0 ⟨_, rfl, rfl⟩ rfl ?_; intro w h; dsimp only [updG, setO] at h) | (refine h.storB 1 0 ⟨_, rfl, rfl⟩ rfl rfl rfl ?_; intro w h; dsimp only [updG, setO] at h) | (refine h.drew.stor2 0 0 ⟨_, rfl, rfl⟩ rfl ?_; intro w h; dsimp only [updG, setO] at h) | (refine h.drew.storB 0 0 ⟨_, rfl, rfl⟩ rfl rfl rfl ?_; intro w h; dsimp only [updG, setO] at h) | (refine h.drew.stor2 1 0 ⟨_, rfl, rfl⟩ rfl ?_; intro w h; dsimp only [updG, setO] at h) | (refine h.drew.storB 1 0 ⟨_, rfl, rfl⟩ rfl rfl rfl ?_; intro w h; dsimp only [updG, setO] at h))) | ((with_reducible refine RunN.isBox ?_); (first | (refine h.newB run_boxA rfl ?_; intro bn w h; try dsimp only at h; have h := h.ord 2 [1, 0]; dsimp only [pick, nthO, dropO] at h) | (refine h.drew.newB run_boxA rfl ?_; intro bn w h; try dsimp only at h; have h := h.ord 2 [1, 0]; dsimp only [pick, nthO, dropO] at h))) | ((with_reducible refine RunN.isNew ?_); (first | (refine h.newB (NewC.run _) rfl ?_; intro bn w h; have h := h.ord 2 [1, 0]; dsimp only [pick, nthO, dropO] at h) | (refine h.drew.newB (NewC.run _) rfl ?_; intro bn w h; have h := h.ord 2 [1, 0]; dsimp only [pick, nthO, dropO] at h))) | (refine RunN.k2Eq ?_) | (refine RunN.k2Ne ?_) | (refine ReadN.k2Eq ?_) | (refine ReadN.k2Ne ?_))
  rw [SplitB_iff]
  refine ⟨fun c2 => ?_, fun c2 => ?_⟩
  rotate_left
  · exact ⟨by have c2 : (g.to == e.me) = false := c2
              simp [Lk.fits, c2], hd⟩
  repeat (first | (with_reducible refine NilP.mk ?_) | ((with_reducible refine RunN.isLoad ?_); (first | refine h.load2 0 0 ⟨_, rfl, rfl⟩ rfl ?_ | refine h.loadB 0 0 ⟨_, rfl, rfl⟩ rfl rfl ?_ | refine h.load2 1 0 ⟨_, rfl, rfl⟩ rfl ?_ | refine h.loadB 1 0 ⟨_, rfl, rfl⟩ rfl rfl ?_ | refine h.drew.load2 0 0 ⟨_, rfl, rfl⟩ rfl ?_ | refine h.drew.loadB 0 0 ⟨_, rfl, rfl⟩ rfl rfl ?_ | refine h.drew.load2 1 0 ⟨_, rfl, rfl⟩ rfl ?_ | refine h.drew.loadB 1 0 ⟨_, rfl, rfl⟩ rfl rfl ?_)) | ((with_reducible refine ReadN.isLoad ?_); (first | refine h.read2 0 0 ⟨_, rfl, rfl⟩ rfl ?_ | refine h.readB 0 0 ⟨_, rfl, rfl⟩ rfl rfl ?_ | refine h.read2 1 0 ⟨_, rfl, rfl⟩ rfl ?_ | refine h.readB 1 0 ⟨_, rfl, rfl⟩ rfl rfl ?_ | refine h.drew.read2 0 0 ⟨_, rfl, rfl⟩ rfl ?_ | refine h.drew.readB 0 0 ⟨_, rfl, rfl⟩ rfl rfl ?_ | refine h.drew.read2 1 0 ⟨_, rfl, rfl⟩ rfl ?_ | refine h.drew.readB 1 0 ⟨_, rfl, rfl⟩ rfl rfl ?_)) | ((with_reducible refine StillV.isLoad ?_); (first | refine ⟨h.stillB 0 0 ⟨_, rfl, rfl⟩ rfl rfl, ?_⟩ | refine ⟨h.still2 0 0 ⟨_, rfl, rfl⟩ rfl, ?_⟩ | refine ⟨h.stillB 1 0 ⟨_, rfl, rfl⟩ rfl rfl, ?_⟩ | refine ⟨h.still2 1 0 ⟨_, rfl, rfl⟩ rfl, ?_⟩)) | ((with_reducible refine RunU.isStor ?_); (first | (refine h.stor2 0 0 ⟨_, rfl, rfl⟩ rfl ?_; intro w h; dsimp only [updG, setO] at h) | (refine h.storB 0 0 ⟨_, rfl, rfl⟩ rfl rfl rfl ?_; intro w h; dsimp only [updG, setO] at h) | (refine h.stor2 1 0 ⟨_, rfl, rfl⟩ rfl ?_; intro w h; dsimp only [updG, setO] at h) | (refine h.storB 1 0 ⟨_, rfl, rfl⟩ rfl rfl rfl ?_; intro w h; dsimp only [updG, setO] at h) | (refine h.drew.stor2 0 0 ⟨_, rfl, rfl⟩ rfl ?_; intro w h; dsimp only [updG, setO] at h) | (refine h.drew.storB 0 0 ⟨_, rfl, rfl⟩ rfl rfl rfl ?_; intro w h; dsimp only [updG, setO] at h) | (refine h.drew.stor2 1 0 ⟨_, rfl, rfl⟩ rfl ?_; intro w h; dsimp only [updG, setO] at h) | (refine h.drew.storB 1 0 ⟨_, rfl, rfl⟩ rfl rfl rfl ?_; intro w h; dsimp only [updG, setO] at h))) | ((with_reducible refine RunN.isBox ?_); (first | (refine h.newB run_boxA rfl ?_; intro bn w h; try dsimp only at h; have h := h.ord 2 [1, 0]; dsimp only [pick, nthO, dropO] at h) | (refine h.drew.newB run_boxA rfl ?_; intro bn w h; try dsimp only at h; have h := h.ord 2 [1, 0]; dsimp only [pick, nthO, dropO] at h))) | ((with_reducible refine RunN.isNew ?_); (first | (refine h.newB (NewC.run _) rfl ?_; intro bn w h; have h := h.ord 2 [1, 0]; dsimp only [pick, nthO, dropO] at h) | (refine h.drew.newB (NewC.run _) rfl ?_; intro bn w h; have h := h.ord 2 [1, 0]; dsimp only [pick, nthO, dropO] at h))) | (refine RunN.k2Eq ?_) | (refine RunN.k2Ne ?_) | (refine ReadN.k2Eq ?_) | (refine ReadN.k2Ne ?_))
  rw [SplitB_iff]
  refine ⟨fun c3 => ?_, fun c3 => ?_⟩
  rotate_left
  · exact ⟨by have c3 : decide (g.seq ≥ 0) = false := c3
              simp [Lk.fits, c3], hd⟩
  repeat (first | (with_reducible refine NilP.mk ?_) | ((with_reducible refine RunN.isLoad ?_); (first | refine h.load2 0 0 ⟨_, rfl, rfl⟩ rfl ?_ | refine h.loadB 0 0 ⟨_, rfl, rfl⟩ rfl rfl ?_ | refine h.load2 1 0 ⟨_, rfl, rfl⟩ rfl ?_ | refine h.loadB 1 0 ⟨_, rfl, rfl⟩ rfl rfl ?_ | refine h.drew.load2 0 0 ⟨_, rfl, rfl⟩ rfl ?_ | refine h.drew.loadB 0 0 ⟨_, rfl, rfl⟩ rfl rfl ?_ | refine h.drew.load2 1 0 ⟨_, rfl, rfl⟩ rfl ?_ | refine h.drew.loadB 1 0 ⟨_, rfl, rfl⟩ rfl rfl ?_)) | ((with_reducible refine ReadN.isLoad ?_); (first | refine h.read2 0 0 ⟨_, rfl, rfl⟩ rfl ?_ | refine h.readB 0 0 ⟨_, rfl, rfl⟩ rfl rfl ?_ | refine h.read2 1 0 ⟨_, rfl, rfl⟩ rfl ?_ | refine h.readB 1 0 ⟨_, rfl, rfl⟩ rfl rfl ?_ | refine h.drew.read2 0 0 ⟨_, rfl, rfl⟩ rfl ?_ | refine h.drew.readB 0 0 ⟨_, rfl, rfl⟩ rfl rfl ?_ | refine h.drew.read2 1 0 ⟨_, rfl, rfl⟩ rfl ?_ | refine h.drew.readB 1 0 ⟨_, rfl, rfl⟩ rfl rfl ?_)) | ((with_reducible refine StillV.isLoad ?_); (first | refine ⟨h.stillB 0 0 ⟨_, rfl, rfl⟩ rfl rfl, ?_⟩ | refine ⟨h.still2 0 0 ⟨_, rfl, rfl⟩ rfl, ?_⟩ | refine ⟨h.stillB 1 0 ⟨_, rfl, rfl⟩ rfl rfl, ?_⟩ | refine ⟨h.still2 1 0 ⟨_, rfl, rfl⟩ rfl, ?_⟩)) | ((with_reducible refine RunU.isStor ?_); (first | (refine h.stor2 0 0 ⟨_, rfl, rfl⟩ rfl ?_; intro w h; dsimp only [updG, setO] at h) | (refine h.storB 0 0 ⟨_, rfl, rfl⟩ rfl rfl rfl ?_; intro w h; dsimp only [updG, setO] at h) | (refine h.stor2 1 0 ⟨_, rfl, rfl⟩ rfl ?_; intro w h; dsimp only [updG, setO] at h) | (refine h.storB 1 0 ⟨_, rfl, rfl⟩ rfl rfl rfl ?_; intro w h; dsimp only [updG, setO] at h) | (refine h.drew.stor2 0 0 ⟨_, rfl, rfl⟩ rfl ?_; intro w h; dsimp only [updG, setO] at h) | (refine h.drew.storB 0 0 ⟨_, rfl, rfl⟩ rfl rfl rfl ?_; intro w h; dsimp only [updG, setO] at h) | (refine h.drew.stor2 1 0 ⟨_, rfl, rfl⟩ rfl ?_; intro w h; dsimp only [updG, setO] at h) | (refine h.drew.storB 1 0 ⟨_, rfl, rfl⟩ rfl rfl rfl ?_; intro w h; dsimp only [updG, setO] at h))) | ((with_reducible refine RunN.isBox ?_); (first | (refine h.newB run_boxA rfl ?_; intro bn w h; try dsimp only at h; have h := h.ord 2 [1, 0]; dsimp only [pick, nthO, dropO] at h) | (refine h.drew.newB run_boxA rfl ?_; intro bn w h; try dsimp only at h; have h := h.ord 2 [1, 0]; dsimp only [pick, nthO, dropO] at h))) | ((with_reducible refine RunN.isNew ?_); (first | (refine h.newB (NewC.run _) rfl ?_; intro bn w h; have h := h.ord 2 [1, 0]; dsimp only [pick, nthO, dropO] at h) | (refine h.drew.newB (NewC.run _) rfl ?_; intro bn w h; have h := h.ord 2 [1, 0]; dsimp only [pick, nthO, dropO] at h))) | (refine RunN.k2Eq ?_) | (refine RunN.k2Ne ?_) | (refine ReadN.k2Eq ?_) | (refine ReadN.k2Ne ?_))
  rw [SplitB_iff]
  refine ⟨fun c4 => ?_, fun c4 => ?_⟩
  rotate_left
  · exact ⟨by have c4 : decide (g.seq ≤ 1099511627776) = false := c4
              simp [Lk.fits, c4], hd⟩
  repeat (first | (with_reducible refine NilP.mk ?_) | ((with_reducible refine RunN.isLoad ?_); (first | refine h.load2 0 0 ⟨_, rfl, rfl⟩ rfl ?_ | refine h.loadB 0 0 ⟨_, rfl, rfl⟩ rfl rfl ?_ | refine h.load2 1 0 ⟨_, rfl, rfl⟩ rfl ?_ | refine h.loadB 1 0 ⟨_, rfl, rfl⟩ rfl rfl ?_ | refine h.drew.load2 0 0 ⟨_, rfl, rfl⟩ rfl ?_ | refine h.drew.loadB 0 0 ⟨_, rfl, rfl⟩ rfl rfl ?_ | refine h.drew.load2 1 0 ⟨_, rfl, rfl⟩ rfl ?_ | refine h.drew.loadB 1 0 ⟨_, rfl, rfl⟩ rfl rfl ?_)) | ((with_reducible refine ReadN.isLoad ?_); (first | refine h.read2 0 0 ⟨_, rfl, rfl⟩ rfl ?_ | refine h.readB 0 0 ⟨_, rfl, rfl⟩ rfl rfl ?_ | refine h.read2 1 0 ⟨_, rfl, rfl⟩ rfl ?_ | refine h.readB 1 0 ⟨_, rfl, rfl⟩ rfl rfl ?_ | refine h.drew.read2 0 0 ⟨_, rfl, rfl⟩ rfl ?_ | refine h.drew.readB 0 0 ⟨_, rfl, rfl⟩ rfl rfl ?_ | refine h.drew.read2 1 0 ⟨_, rfl, rfl⟩ rfl ?_ | refine h.drew.readB 1 0 ⟨_, rfl, rfl⟩ rfl rfl ?_)) | ((with_reducible refine StillV.isLoad ?_); (first | refine ⟨h.stillB 0 0 ⟨_, rfl, rfl⟩ rfl rfl, ?_⟩ | refine ⟨h.still2 0 0 ⟨_, rfl, rfl⟩ rfl, ?_⟩ | refine ⟨h.stillB 1 0 ⟨_, rfl, rfl⟩ rfl rfl, ?_⟩ | refine ⟨h.still2 1 0 ⟨_, rfl, rfl⟩ rfl, ?_⟩)) | ((with_reducible refine RunU.isStor ?_); (first | (refine h.stor2 0 0 ⟨_, rfl, rfl⟩ rfl ?_; intro w h; dsimp only [updG, setO] at h) | (refine h.storB 0 0 ⟨_, rfl, rfl⟩ rfl rfl rfl ?_; intro w h; dsimp only [updG, setO] at h) | (refine h.stor2 1 0 ⟨_, rfl, rfl⟩ rfl ?_; intro w h; dsimp only [updG, setO] at h) | (refine h.storB 1 0 ⟨_, rfl, rfl⟩ rfl rfl rfl ?_; intro w h; dsimp only [updG, setO] at h) | (refine h.drew.stor2 0 0 ⟨_, rfl, rfl⟩ rfl ?_; intro w h; dsimp only [updG, setO] at h) | (refine h.drew.storB 0 0 ⟨_, rfl, rfl⟩ rfl rfl rfl ?_; intro w h; dsimp only [updG, setO] at h) | (refine h.drew.stor2 1 0 ⟨_, rfl, rfl⟩ rfl ?_; intro w h; dsimp only [updG, setO] at h) | (refine h.drew.storB 1 0 ⟨_, rfl, rfl⟩ rfl rfl rfl ?_; intro w h; dsimp only [updG, setO] at h))) | ((with_reducible refine RunN.isBox ?_); (first | (refine h.newB run_boxA rfl ?_; intro bn w h; try dsimp only at h; have h := h.ord 2 [1, 0]; dsimp only [pick, nthO, dropO] at h) | (refine h.drew.newB run_boxA rfl ?_; intro bn w h; try dsimp only at h; have h := h.ord 2 [1, 0]; dsimp only [pick, nthO, dropO] at h))) | ((with_reducible refine RunN.isNew ?_); (first | (refine h.newB (NewC.run _) rfl ?_; intro bn w h; have h := h.ord 2 [1, 0]; dsimp only [pick, nthO, dropO] at h) | (refine h.drew.newB (NewC.run _) rfl ?_; intro bn w h; have h := h.ord 2 [1, 0]; dsimp only [pick, nthO, dropO] at h))) | (refine RunN.k2Eq ?_) | (refine RunN.k2Ne ?_) | (refine ReadN.k2Eq ?_) | (refine ReadN.k2Ne ?_))
  rw [SplitB_iff]
  refine ⟨fun c5 => ?_, fun c5 => ?_⟩
  rotate_left
  · exact ⟨by have c5 : decide (g.ack ≥ 0) = false := c5
              simp [Lk.fits, c5], hd⟩
  repeat (first | (with_reducible refine NilP.mk ?_) | ((with_reducible refine RunN.isLoad ?_); (first | refine h.load2 0 0 ⟨_, rfl, rfl⟩ rfl ?_ | refine h.loadB 0 0 ⟨_, rfl, rfl⟩ rfl rfl ?_ | refine h.load2 1 0 ⟨_, rfl, rfl⟩ rfl ?_ | refine h.loadB 1 0 ⟨_, rfl, rfl⟩ rfl rfl ?_ | refine h.drew.load2 0 0 ⟨_, rfl, rfl⟩ rfl ?_ | refine h.drew.loadB 0 0 ⟨_, rfl, rfl⟩ rfl rfl ?_ | refine h.drew.load2 1 0 ⟨_, rfl, rfl⟩ rfl ?_ | refine h.drew.loadB 1 0 ⟨_, rfl, rfl⟩ rfl rfl ?_)) | ((with_reducible refine ReadN.isLoad ?_); (first | refine h.read2 0 0 ⟨_, rfl, rfl⟩ rfl ?_ | refine h.readB 0 0 ⟨_, rfl, rfl⟩ rfl rfl ?_ | refine h.read2 1 0 ⟨_, rfl, rfl⟩ rfl ?_ | refine h.readB 1 0 ⟨_, rfl, rfl⟩ rfl rfl ?_ | refine h.drew.read2 0 0 ⟨_, rfl, rfl⟩ rfl ?_ | refine h.drew.readB 0 0 ⟨_, rfl, rfl⟩ rfl rfl ?_ | refine h.drew.read2 1 0 ⟨_, rfl, rfl⟩ rfl ?_ | refine h.drew.readB 1 0 ⟨_, rfl, rfl⟩ rfl rfl ?_)) | ((with_reducible refine StillV.isLoad ?_); (first | refine ⟨h.stillB 0 0 ⟨_, rfl, rfl⟩ rfl rfl, ?_⟩ | refine ⟨h.still2 0 0 ⟨_, rfl, rfl⟩ rfl, ?_⟩ | refine ⟨h.stillB 1 0 ⟨_, rfl, rfl⟩ rfl rfl, ?_⟩ | refine ⟨h.still2 1 0 ⟨_, rfl, rfl⟩ rfl, ?_⟩)) | ((with_reducible refine RunU.isStor ?_); (first | (refine h.stor2 0 0 ⟨_, rfl, rfl⟩ rfl ?_; intro w h; dsimp only [updG, setO] at h) | (refine h.storB 0 0 ⟨_, rfl, rfl⟩ rfl rfl rfl ?_; intro w h; dsimp only [updG, setO] at h) | (refine h.stor2 1 0 ⟨_, rfl, rfl⟩ rfl ?_; intro w h; dsimp only [updG, setO] at h) | (refine h.storB 1 0 ⟨_, rfl, rfl⟩ rfl rfl rfl ?_; intro w h; dsimp only [updG, setO] at h) | (refine h.drew.stor2 0 0 ⟨_, rfl, rfl⟩ rfl ?_; intro w h; dsimp only [updG, setO] at h) | (refine h.drew.storB 0 0 ⟨_, rfl, rfl⟩ rfl rfl rfl ?_; intro w h; dsimp only [updG, setO] at h) | (refine h.drew.stor2 1 0 ⟨_, rfl, rfl⟩ rfl ?_; intro w h; dsimp only [updG, setO] at h) | (refine h.drew.storB 1 0 ⟨_, rfl, rfl⟩ rfl rfl rfl ?_; intro w h; dsimp only [updG, setO] at h))) | ((with_reducible refine RunN.isBox ?_); (first | (refine h.newB run_boxA rfl ?_; intro bn w h; try dsimp only at h; have h := h.ord 2 [1, 0]; dsimp only [pick, nthO, dropO] at h) | (refine h.drew.newB run_boxA rfl ?_; intro bn w h; try dsimp only at h; have h := h.ord 2 [1, 0]; dsimp only [pick, nthO, dropO] at h))) | ((with_reducible refine RunN.isNew ?_); (first | (refine h.newB (NewC.run _) rfl ?_; intro bn w h; have h := h.ord 2 [1, 0]; dsimp only [pick, nthO, dropO] at h) | (refine h.drew.newB (NewC.run _) rfl ?_; intro bn w h; have h := h.ord 2 [1, 0]; dsimp only [pick, nthO, dropO] at h))) | (refine RunN.k2Eq ?_) | (refine RunN.k2Ne ?_) | (refine ReadN.k2Eq ?_) | (refine ReadN.k2Ne ?_))
  rw [SplitB_iff]
  refine ⟨fun c6 => ?_, fun c6 => ?_⟩
  rotate_left
  · exact ⟨by have c6 : decide (g.ack ≤ e.gone) = false := c6
              simp [Lk.fits, c6], hd⟩
  have d1 : (g.fr == e.peer) = true := c1
  have d2 : (g.to == e.me) = true := c2
  have d3 : decide (g.seq ≥ 0) = true := c3
  have d4 : decide (g.seq ≤ 1099511627776) = true := c4
  have d5 : decide (g.ack ≥ 0) = true := c5
  have d6 : decide (g.ack ≤ e.gone) = true := c6
  have hl : decide ((g.d.1.len : Int) ≤ 4000) = decide (g.d.2.length ≤ 4000) := by rw [hgl]; exact decide_eq_decide.2 (by omega)
  repeat (first | (with_reducible refine NilP.mk ?_) | ((with_reducible refine RunN.isLoad ?_); (first | refine h.load2 0 0 ⟨_, rfl, rfl⟩ rfl ?_ | refine h.loadB 0 0 ⟨_, rfl, rfl⟩ rfl rfl ?_ | refine h.load2 1 0 ⟨_, rfl, rfl⟩ rfl ?_ | refine h.loadB 1 0 ⟨_, rfl, rfl⟩ rfl rfl ?_ | refine h.drew.load2 0 0 ⟨_, rfl, rfl⟩ rfl ?_ | refine h.drew.loadB 0 0 ⟨_, rfl, rfl⟩ rfl rfl ?_ | refine h.drew.load2 1 0 ⟨_, rfl, rfl⟩ rfl ?_ | refine h.drew.loadB 1 0 ⟨_, rfl, rfl⟩ rfl rfl ?_)) | ((with_reducible refine ReadN.isLoad ?_); (first | refine h.read2 0 0 ⟨_, rfl, rfl⟩ rfl ?_ | refine h.readB 0 0 ⟨_, rfl, rfl⟩ rfl rfl ?_ | refine h.read2 1 0 ⟨_, rfl, rfl⟩ rfl ?_ | refine h.readB 1 0 ⟨_, rfl, rfl⟩ rfl rfl ?_ | refine h.drew.read2 0 0 ⟨_, rfl, rfl⟩ rfl ?_ | refine h.drew.readB 0 0 ⟨_, rfl, rfl⟩ rfl rfl ?_ | refine h.drew.read2 1 0 ⟨_, rfl, rfl⟩ rfl ?_ | refine h.drew.readB 1 0 ⟨_, rfl, rfl⟩ rfl rfl ?_)) | ((with_reducible refine StillV.isLoad ?_); (first | refine ⟨h.stillB 0 0 ⟨_, rfl, rfl⟩ rfl rfl, ?_⟩ | refine ⟨h.still2 0 0 ⟨_, rfl, rfl⟩ rfl, ?_⟩ | refine ⟨h.stillB 1 0 ⟨_, rfl, rfl⟩ rfl rfl, ?_⟩ | refine ⟨h.still2 1 0 ⟨_, rfl, rfl⟩ rfl, ?_⟩)) | ((with_reducible refine RunU.isStor ?_); (first | (refine h.stor2 0 0 ⟨_, rfl, rfl⟩ rfl ?_; intro w h; dsimp only [updG, setO] at h) | (refine h.storB 0 0 ⟨_, rfl, rfl⟩ rfl rfl rfl ?_; intro w h; dsimp only [updG, setO] at h) | (refine h.stor2 1 0 ⟨_, rfl, rfl⟩ rfl ?_; intro w h; dsimp only [updG, setO] at h) | (refine h.storB 1 0 ⟨_, rfl, rfl⟩ rfl rfl rfl ?_; intro w h; dsimp only [updG, setO] at h) | (refine h.drew.stor2 0 0 ⟨_, rfl, rfl⟩ rfl ?_; intro w h; dsimp only [updG, setO] at h) | (refine h.drew.storB 0 0 ⟨_, rfl, rfl⟩ rfl rfl rfl ?_; intro w h; dsimp only [updG, setO] at h) | (refine h.drew.stor2 1 0 ⟨_, rfl, rfl⟩ rfl ?_; intro w h; dsimp only [updG, setO] at h) | (refine h.drew.storB 1 0 ⟨_, rfl, rfl⟩ rfl rfl rfl ?_; intro w h; dsimp only [updG, setO] at h))) | ((with_reducible refine RunN.isBox ?_); (first | (refine h.newB run_boxA rfl ?_; intro bn w h; try dsimp only at h; have h := h.ord 2 [1, 0]; dsimp only [pick, nthO, dropO] at h) | (refine h.drew.newB run_boxA rfl ?_; intro bn w h; try dsimp only at h; have h := h.ord 2 [1, 0]; dsimp only [pick, nthO, dropO] at h))) | ((with_reducible refine RunN.isNew ?_); (first | (refine h.newB (NewC.run _) rfl ?_; intro bn w h; have h := h.ord 2 [1, 0]; dsimp only [pick, nthO, dropO] at h) | (refine h.drew.newB (NewC.run _) rfl ?_; intro bn w h; have h := h.ord 2 [1, 0]; dsimp only [pick, nthO, dropO] at h))) | (refine RunN.k2Eq ?_) | (refine RunN.k2Ne ?_) | (refine ReadN.k2Eq ?_) | (refine ReadN.k2Ne ?_))
  rw [SplitB_iff]
  refine ⟨fun c7 => ?_, fun c7 => ?_⟩
  · have d7 : decide (g.seq > 0) = true := c7
    refine h.drew.readB 1 0 ⟨_, rfl, rfl⟩ rfl (kd := .sl) (x := g.d.1) rfl ?_
    refine ⟨?_, hd⟩
    rw [hl, Lk.fits, d1, d2, d3, d4, d5, d6, d7]; rfl
  · have d7 : decide (g.seq > 0) = false := c7
    refine h.drew.readB 1 0 ⟨_, rfl, rfl⟩ rfl (kd := .sl) (x := g.d.1) rfl ?_
    rw [SplitB_iff]
    refine ⟨fun c8 => ?_, fun c8 => ?_⟩
    · have d8 : decide (g.d.2.length = 0) = true := by
        have : ((g.d.1.len : Nat) : Int) = 0 := by simpa using c8
        exact decide_eq_true (by omega)
      refine h.drew.readB 1 0 ⟨_, rfl, rfl⟩ rfl (kd := .sl) (x := g.d.1) rfl ?_
      refine ⟨?_, hd⟩
      rw [hl, Lk.fits, d1, d2, d3, d4, d5, d6, d7, d8]; rfl
    · have d8 : decide (g.d.2.length = 0) = false := by
        have : ¬ ((g.d.1.len : Nat) : Int) = 0 := by simpa using c8
        exact decide_eq_false (by omega)
      refine ⟨?_, hd⟩
      rw [Lk.fits, d1, d2, d3, d4, d5, d6, d7, d8]; rfl
/-- How many of these are acknowledged. -/
def ackd (l : List Pc) (a : Int) : Nat := (l.takeWhile fun p => decide (p.1 ≤ a)).length
theorem ackd_le (l : List Pc) (a : Int) : ackd l a ≤ l.length := by
  induction l with
  | nil => exact Nat.le_refl _
  | cons x r ih =>
    rw [ackd] at ih ⊢
    rw [List.takeWhile_cons]
    split <;> simp
    exact ih
theorem ackd_of {a : Int} : ∀ {l : List Pc} {m : Nat}, m ≤ l.length → (∀ (i : Nat) (h : i < l.length), i < m → l[i].1 ≤ a) → (∀ h : m < l.length, a < l[m].1) → ackd l a = m
  | [], m, h1, h2, h3 => by simp at h1; subst h1; rfl
  | x :: r, 0, h1, h2, h3 => by
    have : ¬ x.1 ≤ a := by have := h3 (by simp); simp at this; omega
    rw [ackd, List.takeWhile_cons]; simp [this]
  | x :: r, m + 1, h1, h2, h3 => by
    have h4 : x.1 ≤ a := h2 0 (by simp) (by omega)
    have ih := ackd_of (l := r) (m := m) (by simpa using h1) (fun i hi him => h2 (i + 1) (by simp; omega) (by omega)) (fun h => h3 (by simp; omega))
    rw [ackd] at ih ⊢
    rw [List.takeWhile_cons]
    simp [h4, ih]
theorem find_st (h : St w0 w G) {k i : Nat} {s : Sl} {l : List Pc} (he : Has G k i (.row 81 2 s (l.flatMap pcv))) (hl : l.length ≤ 1048576) {k2 i2 : Nat} {b : Nat} {g : Sg} (hb : Has G k2 i2 (.cel b 62 (sgv g))) :
    CallK Try.prog (.int .i64) 34 #[.slice s.a s.len s.cap, .func (.func 35) #[] #[.pointer (some ⟨b, 0, none⟩)]] w
    fun (v : Int) w' => ((v = (ackd l g.ack : Nat) ∧ ackd l g.ack < l.length) ∨ (v = -1 ∧ ackd l g.ack = l.length)) ∧ St w0 w' G := by
  have hsl : s.len = l.length := by have := (h.rd he).1; rw [flat_len pcv_len] at this; omega
  refine T34.calls ?_
  unfold T34
  refine LoopX.mk (fun st w' => ∃ m : Nat, st = ((m : Int), ()) ∧ m ≤ l.length ∧ (∀ (i : Nat) (h : i < l.length), i < m → l[i].1 ≤ g.ack) ∧ St w0 w' G) (fun st => l.length - st.1.toNat) ⟨0, rfl, Nat.zero_le _, fun _ _ h => by omega, h⟩ ?_
  clear h
  rintro _ w1 ⟨m, rfl, hm, hlow, h⟩ kk hk
  dsimp only at hk ⊢
  rw [hsl]
  rw [SplitB_iff]
  refine ⟨fun hc => ?_, fun hc => ?_⟩
  · have hc : m < l.length := by have : (m : Int) < (l.length : Int) := of_decide_eq_true hc
                                 omega
    have hem : IntKind.i64.wrap ((m : Int) + 1) = ((m + 1 : Nat) : Int) := by rw [wr (by omega)]; omega
    rw [hem, ← hsl]
    have hrr := h.rd he
    refine hrr.idxK m rfl (by omega) ?_
    intro g0 o0 ha
    refine hrr.elA ha (m * 2) rfl (kd := Kdp) (pct l[m]) (ds := pcv l[m]) (flat_at pcv_len _ _ hc) ?_
    refine T35.calls (p0 := pct l[m]) ?_
    unfold T35
    refine h.newB run_boxA rfl ?_
    intro b2 w2 h
    refine h.loadB 0 0 ⟨_, rfl, rfl⟩ rfl (kd := .int .i64) (x := l[m].1) rfl ?_
    have h := h.drop 0
    dsimp only [delO] at h
    refine h.loadB k2 i2 hb rfl (kd := .int .i64) (x := g.ack) rfl ?_
    dsimp only
    rw [SplitB_iff]
    refine ⟨fun hd => ?_, fun hd => ?_⟩
    · have hd : l[m].1 > g.ack := of_decide_eq_true hd
      have e1 := ackd_of (a := g.ack) hm hlow (fun _ => hd)
      exact ⟨.inl ⟨by rw [e1], by omega⟩, h⟩
    · have hd : ¬ l[m].1 > g.ack := of_decide_eq_false hd
      refine hk _ _ ⟨m + 1, rfl, by omega, fun i hi him => ?_, h⟩ (by dsimp only; omega)
      by_cases h1 : i < m
      · exact hlow i hi h1
      · have : i = m := by omega
        subst this; omega
  · have hc : m = l.length := by have : ¬ (m : Int) < (l.length : Int) := of_decide_eq_false hc
                                 omega
    have e1 := ackd_of (a := g.ack) hm hlow (fun h => by omega)
    exact ⟨.inr ⟨rfl, by omega⟩, h⟩
theorem zeroN (w : World) (n : Nat) : (do pure (Builtin.zeroCells (← zeroValue 81).cells n).toList : Sem (List Value)).run Try.prog w = .ok ((List.range (n * 2)).map fun i => if i % 2 = 0 then .int .i64 0 else .slice none 0 0) w := by
  simp only [Sem.run_bind, zero81, Result.andThen_ok, Sem.run_pure]
  congr 1
  simp only [Builtin.zeroCells, Value.cells]
  simp only [Array.toList_map, Array.toList_range]
  refine List.map_congr_left fun i _ => ?_
  rcases Nat.mod_two_eq_zero_or_one i with h | h <;> simp [h]
theorem delete_st (h : St w0 w G) {k i : Nat} {s : Sl} {l : List Pc} (he : Has G k i (.row 81 2 s (l.flatMap pcv))) (hl : l.length ≤ 1048576) {j : Nat} (hj : j ≤ l.length) :
    CallK Try.prog .sl 36 #[.slice s.a s.len s.cap, .int .i64 0, .int .i64 (j : Int)] w fun (r : Sl) w' => St w0 w' (updG G k i [.row 81 2 r ((l.drop j).flatMap pcv)]) := by
  have hrd := h.rd he
  have hlen : s.len = l.length := by have := hrd.1; rw [flat_len pcv_len] at this; omega
  have hcap := hrd.2.2
  have hfl := flat_len pcv_len l
  refine T36.calls ?_
  unfold T36
  obtain ⟨q, hq⟩ := run_subLHM (P := Try.prog) (w := w) (t := 75) (s := s) (k := .i64) (kh := .i64) (km := .i64) (l := (0 : Int)) (h := (j : Int)) (m := (s.len : Int)) (lo := 0) (hi := j) rfl rfl rfl (by omega) (by omega) hrd.2.2
  refine RunN.of (kd := .sl) (x := q) hq ?_
  rw [SplitB_iff]
  refine ⟨fun hc => ?_, fun hc => ?_⟩
  · have : j = 0 := by have : (0 : Int) = (j : Int) := by simpa using hc
                       omega
    subst this
    dsimp only
    rw [List.drop_zero, upd_self he]
    exact h
  · have hj0 : 0 < j := by
      rcases Nat.eq_zero_or_pos j with h0 | h0
      · subst h0; simp at hc
      · exact h0
    refine ReadN.sH 0 rfl (by omega) ?_
    refine ReadN.sL j rfl (by omega) ?_
    rw [subS_zero]
    have hsuf := (h.drew.rd he).suf (lo := j) (by omega)
    have hsl : (subS s j s.len 2).len = l.length - j := by simp only [subS]; omega
    refine St.appIn h.drew k i he 0 hsuf (fun v hv => flat_one pcv_one l v (List.mem_of_mem_drop hv)) (by omega) (by rw [hsl]; omega) ?_
    intro w2 h
    rw [hsl, show 0 + (l.length - j) = l.length - j by omega] at h ⊢
    have he2 := has_upd he (.row 81 2 s (List.take (0 * 2) (l.flatMap pcv) ++ (l.flatMap pcv).drop (j * 2) ++ (l.flatMap pcv).drop ((l.length - j) * 2)))
    refine RunN.sLH (s := ⟨s.a, l.length - j, s.cap⟩) (l.length - j) s.len rfl rfl (by omega) hrd.2.2 ?_
    have e1 : (subS ⟨s.a, l.length - j, s.cap⟩ (l.length - j) s.len 2).len = j := by simp only [subS]; omega
    rw [e1]
    refine h.clear k i he2 (l.length - j) (n := j) (zeroN _ j) (by simp) (List.all_eq_true.2 fun v hv => by
      obtain ⟨x, _, rfl⟩ := List.mem_map.1 hv
      split <;> rfl) hj0 (fun b o hb => ?_) (by omega) ?_
    · rw [subS_addr (s := ⟨s.a, l.length - j, s.cap⟩) hb (by have := hrd.2.2; dsimp only; omega)]
    intro w3 h
    rw [upd_upd he] at h
    have he3 := has_upd he (.row 81 2 s (List.take ((l.length - j) * 2) (List.take (0 * 2) (l.flatMap pcv) ++ (l.flatMap pcv).drop (j * 2) ++ (l.flatMap pcv).drop ((l.length - j) * 2)) ++ ((List.range (j * 2)).map fun i => if i % 2 = 0 then Value.int .i64 0 else .slice none 0 0) ++ List.drop ((l.length - j + j) * 2) (List.take (0 * 2) (l.flatMap pcv) ++ (l.flatMap pcv).drop (j * 2) ++ (l.flatMap pcv).drop ((l.length - j) * 2))))
    have h := h.preR he3 (hi := l.length - j) (by omega)
    rw [upd_upd he, subS_zero] at h
    have hdl : ((l.flatMap pcv).drop (j * 2)).length = (l.length - j) * 2 := by rw [List.length_drop, hfl]; omega
    have hdf : (l.flatMap pcv).drop (j * 2) = (l.drop j).flatMap pcv := by
      have e0 : l.flatMap pcv = (l.take j).flatMap pcv ++ (l.drop j).flatMap pcv := by rw [← List.flatMap_append, List.take_append_drop]
      rw [e0, List.drop_append_of_le_length (by rw [flat_len pcv_len, List.length_take]; omega), List.drop_of_length_le (by rw [flat_len pcv_len, List.length_take]; omega), List.nil_append]
    have e : List.take ((l.length - j) * 2) (List.take ((l.length - j) * 2) (List.take (0 * 2) (l.flatMap pcv) ++ (l.flatMap pcv).drop (j * 2) ++ (l.flatMap pcv).drop ((l.length - j) * 2)) ++ ((List.range (j * 2)).map fun i => if i % 2 = 0 then Value.int .i64 0 else .slice none 0 0) ++ List.drop ((l.length - j + j) * 2) (List.take (0 * 2) (l.flatMap pcv) ++ (l.flatMap pcv).drop (j * 2) ++ (l.flatMap pcv).drop ((l.length - j) * 2))) = (l.drop j).flatMap pcv := by
      rw [Nat.zero_mul, List.take_zero, List.nil_append, List.append_assoc, List.take_append_of_le_length (by rw [List.length_take, List.length_append, hdl]; omega), List.take_take, Nat.min_self, List.take_append_of_le_length (by omega), List.take_of_length_le (by omega), hdf]
    rw [e] at h
    exact h
end Go.Proofs.Ytodgnpmljdopiaa

/- The link in memory: Take. -/
namespace Go.Proofs.Ytodgnpmljdopiaa
open Go Go.Fw Go.RowKit
set_option linter.unusedVariables false
set_option linter.unusedSimpArgs false
set_option maxRecDepth 4000
set_option maxHeartbeats 4000000
variable {w0 w : World} {F G : Grps}

theorem pig {a : Int} : ∀ (n : Nat) (l : List Int), l.Nodup → (∀ x ∈ l, a ≤ x ∧ x < a + n) → l.length ≤ n
  | 0, [], _, _ => Nat.le_refl _
  | 0, x :: r, _, h => by have := h x (List.mem_cons_self ..); omega
  | n + 1, l, hn, h => by
    by_cases hm : (a + n) ∈ l
    · have h1 := List.length_erase_of_mem hm
      have h2 := pig (a := a) n (l.erase (a + n)) (hn.erase _) fun x hx => by
        have h3 := (hn.mem_erase_iff).1 hx
        have h5 := (h x h3.2).1
        have h6 := (h x h3.2).2
        rw [Int.natCast_add, Int.natCast_one] at h6
        have h4 : x ≠ a + n := h3.1
        omega
      omega
    · have := pig (a := a) n l hn fun x hx => by
        have h5 := (h x hx).1
        have h6 := (h x hx).2
        rw [Int.natCast_add, Int.natCast_one] at h6
        have h2 : x ≠ a + n := fun e => hm (e ▸ hx)
        omega
      omega
abbrev Ea := Pc × Nat
def upv (x : Ea) : List Value := [.slice x.1.2.1.a x.1.2.1.len x.1.2.1.cap]
theorem upv_len (x : Ea) : (upv x).length = 1 := rfl
theorem upv_one (x : Ea) : ∀ v ∈ upv x, v.oneCell' = true := by intro v hv; simp [upv] at hv; subst hv; rfl
def ups (l : List Ea) : List Ent := l.map fun x => brow x.1.2
def upE (o : Sl) (l : List Ea) : List Ent := [.row 45 1 o (l.flatMap upv)]
theorem up_len {o : Sl} {l : List Ea} (h : Rd w o 1 (l.flatMap upv)) : o.len = l.length := by
  have := h.1; rw [flat_len upv_len] at this; omega
theorem split_key {k : Int} : ∀ {l : List Ea}, (∃ x ∈ l, x.1.1 = k) → ∃ pre x post, l = pre ++ x :: post ∧ x.1.1 = k ∧ ∀ y ∈ pre, y.1.1 ≠ k
  | [], ⟨_, h, _⟩ => by cases h
  | y :: r, ⟨x, hx, hk⟩ => by
    by_cases hy : y.1.1 = k
    · exact ⟨[], y, r, rfl, hy, fun _ h => by cases h⟩
    · rcases List.mem_cons.1 hx with rfl | hx
      · exact absurd hk hy
      · obtain ⟨pre, z, post, h1, h2, h3⟩ := split_key (l := r) ⟨x, hx, hk⟩
        refine ⟨y :: pre, z, post, by rw [h1]; rfl, h2, fun u hu => ?_⟩
        rcases List.mem_cons.1 hu with rfl | hu
        · exact hy
        · exact h3 u hu
theorem noKey_of {k : Int} {l : List Ea} (h : ∀ y ∈ l, y.1.1 ≠ k) : NoKey (l.map eav) k := by
  intro x hx
  obtain ⟨y, hy, rfl⟩ := List.mem_map.1 hx
  exact h y hy
def Lk.news (e : Lk) (g : Sg) : Prop := g.seq ≠ 0 ∧ (∀ x ∈ e.ea, x.1.1 ≠ g.seq) ∧ e.want ≤ g.seq ∧ g.seq < e.want + e.win
/-- What a segment that fits makes of what came early: what goes up, what stays. -/
structure TakeR (e : Lk) (g : Sg) (u l : List Ea) : Prop where
  yes : e.news g → ∃ s c, (e.ea ++ [((g.seq, s, g.d.2), c)]).Perm (u ++ l) ∧ (∀ (i : Nat) (h : i < u.length), u[i].1.1 = e.want + i) ∧ (∀ x ∈ l, x.1.1 ≠ e.want + u.length)
  no : ¬ e.news g → u = [] ∧ l = e.ea
def Lm.took (e : Lm) (g : Sg) (us : Sl) (mc : Nat) (n : Nat) (l : List Ea) : Lm :=
  { e with un := e.un.drop (ackd e.un g.ack), us := us, ow := if g.seq = 0 then e.ow else true, want := e.want + n, ea := l, mc := mc }
theorem move_up (P : Grps) {pre post : List Ea} {x : Ea} {A : List Ent} {u : List Ea} (h : St w0 w (P ++ ups (pre ++ x :: post) :: A :: ups u :: F)) : St w0 w (P ++ ups (pre ++ post) :: A :: ups (u ++ [x]) :: F) := by
  refine h.perm ?_
  have e1 : ups (pre ++ x :: post) = ups pre ++ (brow x.1.2 :: ups post) := by simp [ups]
  have e2 : ups (pre ++ post) = ups pre ++ ups post := by simp [ups]
  have e3 : ups (u ++ [x]) = ups u ++ [brow x.1.2] := by simp [ups]
  rw [e1, e2, e3]
  simp only [List.flatten_append, List.flatten_cons, List.append_assoc, List.cons_append, List.nil_append]
  refine List.Perm.append_left _ ?_
  refine List.Perm.append_left _ ?_
  have h1 : (brow x.1.2 :: (ups post ++ (A ++ (ups u ++ F.flatten)))).Perm ((ups post ++ (A ++ ups u)) ++ (brow x.1.2 :: F.flatten)) := by
    refine List.Perm.trans ?_ List.perm_middle.symm
    refine List.Perm.cons _ ?_
    simp only [List.append_assoc]
    exact .refl _
  simpa only [List.append_assoc] using h1
/-- The loop: what is in turn goes up. -/
theorem rise {e : Lm} {c3 : Ent} {D : List Ent} (h : St w0 w (lmE e :: [c3] :: D :: ups e.ea :: F)) (hnd : (e.ea.map (·.1.1)).Nodup) (hr : ∀ x ∈ e.ea, e.want ≤ x.1.1 ∧ x.1.1 < e.want + e.win ∧ x.1.1 ≤ 1099511627776) (hwin : e.win ≤ 16) (hwant : 1 ≤ e.want) {Q : Sl × Int × Unit → World → Prop}
    (hQ : ∀ (o : Sl) (u l : List Ea) w', e.ea.Perm (u ++ l) → (∀ (i : Nat) (h : i < u.length), u[i].1.1 = e.want + i) → (∀ x ∈ l, x.1.1 ≠ e.want + u.length) → o.len = u.length →
      St w0 w' (lmE { e with want := e.want + u.length, ea := l } :: [c3] :: D :: ups l :: upE o u :: ups u :: F) → Q (o, 0, ()) w') :
    LoopX (α := Sl × Unit) (fun s5 w k6 =>
              NilP e.p fun t89 =>
              ReadN Try.prog .map (V (Instr.loadAt 76 (.pointer (some (t89.add 9))))) w.drew fun t91 =>
              NilP e.p fun t93 =>
              ReadN Try.prog (.int .i64) (V (Instr.loadAt 3 (.pointer (some (t93.add 8))))) w.drew fun t95 =>
              ReadN Try.prog (.tup (.cons .sl (.cons .bool .nilT))) (V (Instr.lookup 76 (.map t91) (.int .i64 t95) true)) w.drew fun t96 =>
              SplitB (!t96.2.1)
                (Q (s5.1, 0, ()) w.drew)
                (NilP e.p fun t103 =>
                ReadN Try.prog .map (V (Instr.loadAt 76 (.pointer (some (t103.add 9))))) w.drew.drew fun t105 =>
                NilP e.p fun t107 =>
                ReadN Try.prog (.int .i64) (V (Instr.loadAt 3 (.pointer (some (t107.add 8))))) w.drew.drew fun t109 =>
                RunN Try.prog (.tup .nilT) (V (Builtin.delete_ #[76, 3] 0 #[.map t105, .int .i64 t109])) w.drew.drew fun _ w =>
                RunN Try.prog .sl (V (Instr.buildSlice 51 1 #[(0, .slice t96.1.a t96.1.len t96.1.cap)])) w fun t112 w =>
                RunN Try.prog .sl (V (Builtin.append_ #[51, 51] 51 #[.slice s5.1.a s5.1.len s5.1.cap, .slice t112.a t112.len t112.cap])) w fun t113 w =>
                NilP e.p fun t115 =>
                RunN Try.prog (.int .i64) (V (Instr.loadAt 3 (.pointer (some (t115.add 8))))) w fun t117 w =>
                NilP e.p fun t119 =>
                RunU Try.prog (U (Instr.storeAt 3 (.pointer (some (t119.add 8))) (.int .i64 (IntKind.i64.wrap (t117 + 1))))) w fun w =>
                k6 (t113, ()) w))
            ((⟨none, 0, 0⟩ : Sl), ()) w := by
  have hlen : e.ea.length ≤ 16 := by
    have := pig (a := e.want) e.win (e.ea.map (·.1.1)) hnd fun x hx => by
      obtain ⟨y, hy, rfl⟩ := List.mem_map.1 hx
      exact ⟨(hr y hy).1, (hr y hy).2.1⟩
    rw [List.length_map] at this; omega
  have h : St w0 w (lmE e :: [c3] :: D :: ups e.ea :: upE ⟨none, 0, 0⟩ [] :: ups [] :: F) := by
    have h1 := h.nilrow 45 1
    have h2 := h1.ord 5 [1, 2, 3, 4, 0]
    dsimp only [pick, nthO, dropO] at h2
    exact h2.perm (by simp [upE, ups])
  have e0 : ({ e with want := e.want + ((0 : Nat) : Int), ea := e.ea } : Lm) = e := by simp
  rw [← e0] at h
  refine LoopX.mk (fun st w' => ∃ (o : Sl) (u l : List Ea), st = (o, ()) ∧ o.len = u.length ∧ e.ea.Perm (u ++ l) ∧ (∀ (i : Nat) (h : i < u.length), u[i].1.1 = e.want + i) ∧ St w0 w' (lmE { e with want := e.want + u.length, ea := l } :: [c3] :: D :: ups l :: upE o u :: ups u :: F)) (fun st => 100 - st.1.len) ⟨_, [], e.ea, rfl, rfl, .refl _, (fun i h => by cases h), h⟩ ?_
  clear h
  rintro _ w1 ⟨o, u, l, rfl, hol, hp, hkeys, h⟩ k hk
  dsimp only at hk ⊢
  have hpl := hp.length_eq
  rw [List.length_append] at hpl
  refine NilP.mk ?_
  refine h.drew.readB 0 0 ⟨_, rfl, rfl⟩ rfl (kd := .map) (x := some e.mb) rfl ?_
  refine NilP.mk ?_
  refine h.drew.readB 0 0 ⟨_, rfl, rfl⟩ rfl (kd := .int .i64) (x := e.want + u.length) rfl ?_
  by_cases hx : ∃ x ∈ l, x.1.1 = e.want + u.length
  · obtain ⟨pre, x, post, rfl, hxk, hpre⟩ := split_key hx
    have hme : m1o ((pre ++ x :: post).map eav) e.mc = m1o (pre.map eav ++ (e.want + u.length, .slice x.1.2.1.a x.1.2.1.len x.1.2.1.cap, x.2) :: post.map eav) e.mc := by
      rw [List.map_append, List.map_cons, ← hxk]; rfl
    have hlm : ∀ (W : Int), lmE { e with want := W, ea := pre ++ x :: post } = [.cel e.cb 78 (lmC { e with want := W, ea := [] }), .obj e.ch (.chan e.win ⟨e.bx.map pco⟩ false e.cs e.cr false), .obj e.mb (m1o (pre.map eav ++ (e.want + u.length, .slice x.1.2.1.a x.1.2.1.len x.1.2.1.cap, x.2) :: post.map eav) e.mc), .row 81 2 e.us (e.un.flatMap pcv)] := by
      intro W; rw [← hme]; rfl
    rw [hlm] at h
    refine h.drew.lookS 0 2 (s := x.1.2.1) ⟨_, rfl, rfl⟩ (noKey_of hpre) map76 int3 ?_
    rw [SplitB_iff]
    refine ⟨fun hf => (by cases hf), fun _ => ?_⟩
    refine NilP.mk ?_
    refine h.drew.drew.readB 0 0 ⟨_, rfl, rfl⟩ rfl (kd := .map) (x := some e.mb) rfl ?_
    refine NilP.mk ?_
    refine h.drew.drew.readB 0 0 ⟨_, rfl, rfl⟩ rfl (kd := .int .i64) (x := e.want + u.length) rfl ?_
    refine h.drew.drew.map1Del 0 2 ⟨_, rfl, rfl⟩ (noKey_of hpre) map76 int3 ?_
    intro w2 h
    dsimp only [updG, setO] at h
    refine h.newS 1 (bs51 _ _ _ _) rfl rfl rfl ?_
    intro s w3 hs1 hs2 _ h
    refine h.app 5 0 ⟨_, rfl, rfl⟩ (h.rd (k := 0) (i := 0) ⟨_, rfl, rfl⟩) (upv_one x) (by dsimp only [maxLen]; omega) (by omega) ?_
    intro o' w4 hl4 h
    have h := h.drop 0
    dsimp only [delO, updG, setO] at h
    refine NilP.mk ?_
    refine h.loadB 0 0 ⟨_, rfl, rfl⟩ rfl (kd := .int .i64) (x := e.want + u.length) rfl ?_
    refine NilP.mk ?_
    have hb : e.want + u.length ≤ 1099511627777 := by
      have := (hr x (hp.mem_iff.2 (by simp))).2.2
      omega
    rw [wr (by omega)]
    refine h.storB 0 0 ⟨_, rfl, rfl⟩ rfl rfl rfl ?_
    intro w5 h
    dsimp only [updG, setO] at h
    have h := move_up [_, _, _] h
    refine hk _ _ ⟨o', u ++ [x], pre ++ post, rfl, by simp; omega, ?_, ?_, ?_⟩ (by dsimp only; omega)
    · refine hp.trans ?_
      rw [List.append_assoc]
      refine List.Perm.append_left _ ?_
      exact List.perm_middle
    · intro i hi
      by_cases h1 : i < u.length
      · rw [List.getElem_append_left h1]; exact hkeys i h1
      · have : i = u.length := by simp at hi; omega
        subst this
        rw [List.getElem_append_right (Nat.le_refl _)]
        simp [hxk]
    · have e1 : upE o' (u ++ [x]) = [Ent.row 45 1 o' (u.flatMap upv ++ upv x)] := by simp [upE]
      have e2 : lmE { e with want := e.want + ((u ++ [x]).length : Nat), ea := pre ++ post } = [.cel e.cb 78 [.int .i64 e.me, .int .i64 e.peer, .int .i64 (e.win : Int), .int .i64 e.res, .chan (some e.ch), .slice e.us.a e.us.len e.us.cap, .int .i64 e.last, .int .i64 e.gone, .int .i64 (e.want + u.length + 1), .map (some e.mb), .bool e.ow, .bool e.du, .int .i64 e.ag], .obj e.ch (.chan e.win ⟨e.bx.map pco⟩ false e.cs e.cr false), .obj e.mb (m1o (pre.map eav ++ post.map eav) e.mc), .row 81 2 e.us (e.un.flatMap pcv)] := by
        have : e.want + ((u ++ [x]).length : Nat) = e.want + u.length + 1 := by simp; omega
        rw [this, ← List.map_append]; rfl
      rw [e1, e2]
      exact h
  · have hno : ∀ y ∈ l, y.1.1 ≠ e.want + u.length := fun y hy hk => hx ⟨y, hy, hk⟩
    refine h.drew.lookN 0 2 ⟨_, rfl, rfl⟩ (noKey_of hno) map76 int3 zero45 ?_
    rw [SplitB_iff]
    refine ⟨fun _ => ?_, fun hf => (by cases hf)⟩
    exact hQ o u l _ hp hkeys hno hol h.drew
end Go.Proofs.Ytodgnpmljdopiaa
