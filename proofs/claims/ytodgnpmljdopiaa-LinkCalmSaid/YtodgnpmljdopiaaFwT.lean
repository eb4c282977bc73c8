/- Parts of slices, copies, what is made, what is compared: in the form of groups. -/
import Derived.Test.YtodgnpmljdopiaaFwS
import Derived.Test.YtodgnpmljdopiaaFwR
import Derived.Laws.Small
import Derived.Lib.SlBytesConst
set_option linter.unusedVariables false
set_option linter.unusedSimpArgs false
namespace Go.Fw
open Go Go.RowKit

theorem wr {x : Int} (h : -9223372036854775808 ≤ x ∧ x ≤ 9223372036854775807) : IntKind.i64.wrap x = x := IntWalk.i64_in x h

/-- s[lo:hi] -/
def subS (s : Sl) (lo hi sz : Nat) : Sl := ⟨if s.cap = lo then s.a else s.a.map (·.add (lo * sz)), hi - lo, s.cap - lo⟩
theorem subS_addr {s : Sl} {lo hi sz b o : Nat} (ha : s.a = some ⟨b, o, none⟩) (h : lo < s.cap) : (subS s lo hi sz).a = some ⟨b, o + lo * sz, none⟩ := by
  simp only [subS, if_neg (show ¬ s.cap = lo by omega), ha, Option.map_some, add_lit']
theorem subS_zero (s : Sl) (hi sz : Nat) : subS s 0 hi sz = ⟨s.a, hi, s.cap⟩ := by
  simp only [subS, Nat.zero_mul, Nat.sub_zero]
  congr 1
  split
  · rfl
  · cases s.a <;> simp [Addr.add]
theorem subS_blk (s : Sl) (lo hi sz : Nat) : (subS s lo hi sz).blk = s.blk := by
  simp only [subS, Sl.blk]
  split
  · rfl
  · cases s.a with
    | none => rfl
    | some a => simp [Addr.add]; split <;> rfl
theorem Rd.subS {w : World} {s : Sl} {sz : Nat} {vs : List Value} (h : Rd w s sz vs) {lo hi : Nat} (h1 : lo ≤ hi) (h2 : hi ≤ s.len) : Rd w (subS s lo hi sz) sz ((vs.drop (lo * sz)).take ((hi - lo) * sz)) :=
  h.sub h1 h2 (Nat.le_trans h2 h.2.2)
theorem Rd.pre {w : World} {s : Sl} {sz : Nat} {vs : List Value} (h : Rd w s sz vs) {hi : Nat} (h2 : hi ≤ s.len) : Rd w (Go.Fw.subS s 0 hi sz) sz (vs.take (hi * sz)) := by
  have := h.subS (Nat.zero_le hi) h2; simpa using this
theorem Rd.suf {w : World} {s : Sl} {sz : Nat} {vs : List Value} (h : Rd w s sz vs) {lo : Nat} (h2 : lo ≤ s.len) : Rd w (Go.Fw.subS s lo s.len sz) sz (vs.drop (lo * sz)) := by
  have := h.subS h2 (Nat.le_refl _)
  rwa [List.take_of_length_le (by rw [List.length_drop, h.1, Nat.sub_mul]; omega)] at this
theorem Ow.suf {w : World} {base : Nat} {E : TypeId} {sz : Nat} {s : Sl} {vs : List Value} (h : Ow w base E sz s vs) {lo : Nat} (h2 : lo ≤ s.len) : Ow w base E sz (subS s lo s.len sz) (vs.drop (lo * sz)) := by
  have hl := h.1
  refine ⟨by simp only [subS, List.length_drop, hl, Nat.sub_mul], ?_⟩
  rcases h.2 with rfl | ⟨g, o, cs, ha, hb, hg, h3, h4, h5, h6⟩
  · left
    have : lo = 0 := by simpa using h2
    subst this; rfl
  · right
    have e1 : s.cap * sz = (s.cap - lo) * sz + lo * sz := by rw [← Nat.add_mul]; congr 1; omega
    have e2 : s.len * sz = (s.len - lo) * sz + lo * sz := by rw [← Nat.add_mul]; congr 1; omega
    by_cases hc : s.cap = lo
    · refine ⟨g, o, cs, by simp [subS, hc, ha], hb, hg, by simp only [subS]; omega, by simp only [subS]; omega, by simp only [subS]; rw [hc, Nat.sub_self, Nat.zero_mul]; omega, ?_⟩
      have : s.len - lo = 0 := by omega
      simp only [subS, this, Nat.zero_mul, List.take_zero]
      rw [List.drop_of_length_le]
      rw [hl]; exact Nat.mul_le_mul_right _ (by omega)
    · refine ⟨g, o + lo * sz, cs, subS_addr ha (by omega), hb, hg, by simp only [subS]; omega, by simp only [subS]; omega, by simp only [subS]; omega, ?_⟩
      simp only [subS]
      rw [← h6, List.drop_take, List.drop_drop]
      congr 1
      omega
theorem Ow.pre {w : World} {base : Nat} {E : TypeId} {sz : Nat} {s : Sl} {vs : List Value} (h : Ow w base E sz s vs) {hi : Nat} (h2 : hi ≤ s.len) : Ow w base E sz (subS s 0 hi sz) (vs.take (hi * sz)) := by
  rw [subS_zero]; exact h.shorter h2 rfl

section
variable {P : Program} {w0 w w' : World} {G : Grps}
theorem run_subL' {t e : TypeId} {sz by_ : Nat} [et : Et P t e sz by_] {s : Sl} {k : IntKind} {l : Int} {lo : Nat} (hl : l = (lo : Int)) (h2 : lo ≤ s.len) :
    (Instr.sliceAt t (.slice s.a s.len s.cap) (some (.int k l)) none none).run P w = .ok (.slice (subS s lo s.len sz).a (subS s lo s.len sz).len (subS s lo s.len sz).cap) w := by
  subst hl
  have := run_subL (P := P) (w := w) et.h (s := s) (k := k) (l := (lo : Int)) (by omega) (by omega)
  rw [Int.toNat_natCast] at this; exact this
theorem run_subH' {t e : TypeId} {sz by_ : Nat} [et : Et P t e sz by_] {s : Sl} {k : IntKind} {h : Int} {hi : Nat} (hl : h = (hi : Int)) (h2 : hi ≤ s.cap) :
    (Instr.sliceAt t (.slice s.a s.len s.cap) none (some (.int k h)) none).run P w = .ok (.slice (subS s 0 hi sz).a (subS s 0 hi sz).len (subS s 0 hi sz).cap) w := by
  subst hl
  have := run_subH (P := P) (w := w) et.h (s := s) (k := k) (h := (hi : Int)) (by omega) (by omega)
  rw [Int.toNat_natCast] at this; exact this
theorem run_subLH' {t e : TypeId} {sz by_ : Nat} [et : Et P t e sz by_] {s : Sl} {k kh : IntKind} {l h : Int} {lo hi : Nat} (hl : l = (lo : Int)) (hh : h = (hi : Int)) (h1 : lo ≤ hi) (h2 : hi ≤ s.cap) :
    (Instr.sliceAt t (.slice s.a s.len s.cap) (some (.int k l)) (some (.int kh h)) none).run P w = .ok (.slice (subS s lo hi sz).a (subS s lo hi sz).len (subS s lo hi sz).cap) w := by
  subst hl; subst hh
  have := run_subLH (P := P) (w := w) et.h (s := s) (kl := k) (kh := kh) (l := (lo : Int)) (h := (hi : Int)) (by omega) (by omega) (by omega)
  rw [Int.toNat_natCast, Int.toNat_natCast] at this; exact this
theorem RunN.sL {t e : TypeId} {sz by_ : Nat} [et : Et P t e sz by_] {s : Sl} {k : IntKind} {l : Int} (lo : Nat) (hl : l = (lo : Int)) (h2 : lo ≤ s.len) {K : Sl → World → Prop} (hk : K (subS s lo s.len sz) w) :
    RunN P .sl (V (Instr.sliceAt t (.slice s.a s.len s.cap) (some (.int k l)) none none)) w K := RunN.of (kd := .sl) (run_subL' hl h2) hk
theorem ReadN.sL {t e : TypeId} {sz by_ : Nat} [et : Et P t e sz by_] {s : Sl} {k : IntKind} {l : Int} (lo : Nat) (hl : l = (lo : Int)) (h2 : lo ≤ s.len) {K : Sl → Prop} (hk : K (subS s lo s.len sz)) :
    ReadN P .sl (V (Instr.sliceAt t (.slice s.a s.len s.cap) (some (.int k l)) none none)) w K := ReadN.of (kd := .sl) (run_subL' hl h2) hk
theorem RunN.sH {t e : TypeId} {sz by_ : Nat} [et : Et P t e sz by_] {s : Sl} {k : IntKind} {h : Int} (hi : Nat) (hl : h = (hi : Int)) (h2 : hi ≤ s.cap) {K : Sl → World → Prop} (hk : K (subS s 0 hi sz) w) :
    RunN P .sl (V (Instr.sliceAt t (.slice s.a s.len s.cap) none (some (.int k h)) none)) w K := RunN.of (kd := .sl) (run_subH' hl h2) hk
theorem ReadN.sH {t e : TypeId} {sz by_ : Nat} [et : Et P t e sz by_] {s : Sl} {k : IntKind} {h : Int} (hi : Nat) (hl : h = (hi : Int)) (h2 : hi ≤ s.cap) {K : Sl → Prop} (hk : K (subS s 0 hi sz)) :
    ReadN P .sl (V (Instr.sliceAt t (.slice s.a s.len s.cap) none (some (.int k h)) none)) w K := ReadN.of (kd := .sl) (run_subH' hl h2) hk
theorem StillV.sH {t e : TypeId} {sz by_ : Nat} [et : Et P t e sz by_] {s : Sl} {k : IntKind} {h : Int} (hi : Nat) (hl : h = (hi : Int)) (h2 : hi ≤ s.cap) :
    StillV P (V (Instr.sliceAt t (.slice s.a s.len s.cap) none (some (.int k h)) none)) (.slice (subS s 0 hi sz).a (subS s 0 hi sz).len (subS s 0 hi sz).cap) w := StillV.of (run_subH' hl h2)
theorem RunN.sLH {t e : TypeId} {sz by_ : Nat} [et : Et P t e sz by_] {s : Sl} {k kh : IntKind} {l h : Int} (lo hi : Nat) (hl : l = (lo : Int)) (hh : h = (hi : Int)) (h1 : lo ≤ hi) (h2 : hi ≤ s.cap) {K : Sl → World → Prop} (hk : K (subS s lo hi sz) w) :
    RunN P .sl (V (Instr.sliceAt t (.slice s.a s.len s.cap) (some (.int k l)) (some (.int kh h)) none)) w K := RunN.of (kd := .sl) (run_subLH' hl hh h1 h2) hk
theorem ReadN.sLH {t e : TypeId} {sz by_ : Nat} [et : Et P t e sz by_] {s : Sl} {k kh : IntKind} {l h : Int} (lo hi : Nat) (hl : l = (lo : Int)) (hh : h = (hi : Int)) (h1 : lo ≤ hi) (h2 : hi ≤ s.cap) {K : Sl → Prop} (hk : K (subS s lo hi sz)) :
    ReadN P .sl (V (Instr.sliceAt t (.slice s.a s.len s.cap) (some (.int k l)) (some (.int kh h)) none)) w K := ReadN.of (kd := .sl) (run_subLH' hl hh h1 h2) hk

/-- Copy into a part of an owned row. -/
theorem St.copy (h : St w0 w G) (k i : Nat) {e : TypeId} {sz by_ : Nat} {s : Sl} {vs : List Value} (he : Has G k i (.row e sz s vs)) {t ts ty : TypeId} [et : Et P t e sz by_] {e2 : TypeId} {sz2 b2 : Nat} [et2 : Et P ts e2 sz2 b2] {da : Option Addr} {dl dc : Nat} (lo : Nat)
    (hda : ∀ b o, s.a = some ⟨b, o, none⟩ → 0 < dl → da = some ⟨b, o + lo * sz, none⟩) (hdl : lo + dl ≤ s.len) {p : Sl} {ws : List Value} (hr : Rd w p sz ws) (h1 : ∀ v ∈ ws, v.oneCell' = true) {K : Int → World → Prop}
    (hk : ∀ w', St w0 w' (updG G k i [.row e sz s (vs.take (lo * sz) ++ ws.take (Nat.min p.len dl * sz) ++ vs.drop ((lo + Nat.min p.len dl) * sz))]) → K (Nat.min p.len dl : Nat) w') :
    RunN P (.int .i64) (V (Builtin.copy_ #[t, ts] ty #[.slice da dl dc, .slice p.a p.len p.cap])) w K := by
  obtain ⟨w', hr', ho, hu⟩ := run_copyOw (P := P) (ts := ts) (ty := ty) (da := da) (dc := dc) et.h (by simp [et2.h.ht]) et.pos (h.ow he) hda hdl hr h1
  refine RunN.of (kd := .int .i64) hr' (hk w' (h.change1 he hu ⟨ho, fun v hv => ?_⟩ fun j hj => .inl hj))
  simp only [Ent.vals] at hv
  rcases List.mem_append.1 hv with hv | hv
  · rcases List.mem_append.1 hv with hv | hv
    · exact h.one1 he v (List.mem_of_mem_take hv)
    · exact h1 v (List.mem_of_mem_take hv)
  · exact h.one1 he v (List.mem_of_mem_drop hv)
/-- Clear the end of an owned row. -/
theorem St.clear (h : St w0 w G) (k i : Nat) {e : TypeId} {sz by_ : Nat} {s : Sl} {vs : List Value} (he : Has G k i (.row e sz s vs)) {t ty : TypeId} [et : Et P t e sz by_] {a : Option Addr} {n c : Nat} (lo : Nat) {zs : List Value}
    (hz : (do pure (Builtin.zeroCells (← zeroValue e).cells n).toList : Sem (List Value)).run P w = .ok zs w) (hzl : zs.length = n * sz) (hz1 : zs.all Value.oneCell' = true) (hn : 0 < n) (ha : ∀ b o, s.a = some ⟨b, o, none⟩ → a = some ⟨b, o + lo * sz, none⟩) (hfit : lo + n ≤ s.len) {K : Unit → World → Prop}
    (hk : ∀ w', St w0 w' (updG G k i [.row e sz s (vs.take (lo * sz) ++ zs ++ vs.drop ((lo + n) * sz))]) → K () w') :
    RunN P (.tup .nilT) (V (Builtin.clear_ #[t] ty #[.slice a n c])) w K := by
  obtain ⟨w', hr', ho, hu⟩ := run_clearOw (P := P) (ty := ty) (c := c) et.h (h.ow he) hz hzl (List.all_eq_true.1 hz1) (Nat.mul_pos hn et.pos) ha hfit
  refine RunN.of (kd := .tup .nilT) (x := ()) hr' (hk w' (h.change1 he hu ⟨ho, fun v hv => ?_⟩ fun j hj => .inl hj))
  simp only [Ent.vals] at hv
  rcases List.mem_append.1 hv with hv | hv
  · rcases List.mem_append.1 hv with hv | hv
    · exact h.one1 he v (List.mem_of_mem_take hv)
    · exact List.all_eq_true.1 hz1 v hv
  · exact h.one1 he v (List.mem_of_mem_drop hv)
/-- A row seen shorter: its beginning, its end. -/
theorem St.preR (h : St w0 w G) {k i : Nat} {e : TypeId} {sz : Nat} {s : Sl} {vs : List Value} (he : Has G k i (.row e sz s vs)) {hi : Nat} (h2 : hi ≤ s.len) : St w0 w (updG G k i [.row e sz (subS s 0 hi sz) (vs.take (hi * sz))]) :=
  h.change1 he (Upd.refl _ _) ⟨(h.ow he).pre h2, fun v hv => h.one1 he v (List.mem_of_mem_take hv)⟩ fun j hj => .inl (by simpa [Ent.blk, subS_blk] using hj)
theorem St.sufR (h : St w0 w G) {k i : Nat} {e : TypeId} {sz : Nat} {s : Sl} {vs : List Value} (he : Has G k i (.row e sz s vs)) {lo : Nat} (h2 : lo ≤ s.len) : St w0 w (updG G k i [.row e sz (subS s lo s.len sz) (vs.drop (lo * sz))]) :=
  h.change1 he (Upd.refl _ _) ⟨(h.ow he).suf h2, fun v hv => h.one1 he v (List.mem_of_mem_drop hv)⟩ fun j hj => .inl (by simpa [Ent.blk, subS_blk] using hj)

/-- Append, and what becomes of the old one: it is the beginning of the new one, or it is left where it is. -/
theorem St.appKeep (h : St w0 w G) (k i : Nat) {e : TypeId} {sz by_ : Nat} {s : Sl} {xs : List Value} (he : Has G k i (.row e sz s xs)) {t tx ty : TypeId} [et : Et P t e sz by_] {ex : TypeId} [etx : Et P tx ex sz by_] {p : Sl} {news : List Value} (hr : Rd w p sz news) (h1 : ∀ v ∈ news, v.oneCell' = true)
    (h63 : s.len + p.len ≤ maxLen) (hfit : (s.len + p.len) * by_ ≤ 140737488355328) {K : Sl → World → Prop}
    (hk : ∀ (s' : Sl) w', s'.len = s.len + p.len → (s'.a = s.a ∧ s'.cap = s.cap ∧ St w0 w' (updG G k i [.row e sz s' (xs ++ news)]) ∨ St w0 w' (updG G k i [.row e sz s' (xs ++ news), .row e sz s xs])) → K s' w') :
    RunN P .sl (V (Builtin.append_ #[t, tx] ty #[.slice s.a s.len s.cap, .slice p.a p.len p.cap])) w K := by
  obtain ⟨s', w', hr', hl, ho, hu, hb⟩ := run_app (P := P) (ty := ty) et.h et.pos (h.ow he) (Src.ofRd etx.h et.pos hr h1) h.upd.size h63 hfit
  have hone : ∀ v ∈ xs ++ news, v.oneCell' = true := fun v hv => by
    rcases List.mem_append.1 hv with hv | hv
    · exact h.one1 he v hv
    · exact h1 v hv
  refine RunN.of (kd := .sl) (x := s') hr' (hk s' w' hl ?_)
  rcases hb with ⟨ha, hc⟩ | ⟨hu0, g, hg, hg1, hg2⟩
  · exact .inl ⟨ha, hc, h.change1 he hu ⟨ho, hone⟩ fun j hj => .inl (by simpa [Ent.blk, Sl.blk, ha] using hj)⟩
  · refine .inr (h.change he (hu0.none _) (fun e' he' => ?_) ?_ (fun e' he' j hj => ?_))
    · simp at he'
      rcases he' with rfl | rfl
      · exact ⟨ho, hone⟩
      · exact (h.ent he).upd hu0 fun _ _ h => h
    · refine List.pairwise_cons.2 ⟨fun x hx k hk hxk => ?_, by simp⟩
      simp at hx; subst hx
      simp only [Ent.blk] at hk hxk
      rw [hg] at hk; cases hk
      have := ((h.ent he).lt (k := g) hxk).2
      omega
    · simp at he'
      rcases he' with rfl | rfl
      · simp only [Ent.blk] at hj; rw [hg] at hj; cases hj; exact .inr hg1
      · exact .inl hj
end
end Go.Fw
namespace Go.Fw
open Go
section
variable {P : Program} {w : World}
theorem NilP.mk {a : Addr} {F : Addr → Prop} (h : F a) : NilP (some a) F := h
theorem RunN.isLoad {kd : Kd} {t : TypeId} {v : Value} {K : kd.T → World → Prop} (h : RunN P kd (V (Instr.loadAt t v)) w K) : RunN P kd (V (Instr.loadAt t v)) w K := h
theorem ReadN.isLoad {kd : Kd} {t : TypeId} {v : Value} {K : kd.T → Prop} (h : ReadN P kd (V (Instr.loadAt t v)) w K) : ReadN P kd (V (Instr.loadAt t v)) w K := h
theorem StillV.isLoad {t : TypeId} {v u : Value} {A : Prop} (h : StillV P (V (Instr.loadAt t v)) u w ∧ A) : StillV P (V (Instr.loadAt t v)) u w ∧ A := h
theorem RunU.isStor {t : TypeId} {v u : Value} {K : World → Prop} (h : RunU P (U (Instr.storeAt t v u)) w K) : RunU P (U (Instr.storeAt t v u)) w K := h
theorem RunN.isBox {t : TypeId} {v : Value} {K : Addr → World → Prop} (h : RunN P .addr (V (Instr.box t v)) w K) : RunN P .addr (V (Instr.box t v)) w K := h
theorem RunN.isNew {t : TypeId} {b : Bool} {v : Value} {K : Addr → World → Prop} (h : RunN P .addr (V (Instr.alloc t b v)) w K) : RunN P .addr (V (Instr.alloc t b v)) w K := h
end
end Go.Fw
namespace Go.Fw
open Go
theorem run_boxA {P : Program} {w : World} {t : TypeId} {l : List Value} : (Instr.box t (.agg ⟨l⟩)).run P w = .ok (.pointer (some ⟨w.heap.size, 0, none⟩)) (w.alloc (.cells ⟨l⟩ t)) := run_box rfl
end Go.Fw
namespace Go.Fw
open Go
variable {w0 w : World} {F : Grps}
/-- The list's row is another one. -/
theorem St.swapRow {e' c e : Ent} {ms : List Ent} (h : St w0 w ([e'] :: (c :: e :: ms) :: F)) : St w0 w ((c :: e' :: ms) :: F) := by
  have h : St w0 w ([e] :: (c :: e' :: ms) :: F) := h.perm (by
    simp only [List.flatten_cons, List.cons_append, List.nil_append]
    exact (List.Perm.cons e' (.swap _ _ _)).trans ((List.Perm.swap _ _ _).trans (.cons e (.swap _ _ _))))
  exact h.drop 0

end Go.Fw
namespace Go.Fw
open Go
/-- A pointer against nil. -/
class PtE (P : Program) (t : TypeId) : Prop where
  eqS : ∀ (w : World) (x y : Operand) (a : Addr), (do eqGuard .eql t x y (.pointer (some a)) (.pointer none); binOp .eql t (.pointer (some a)) (.pointer none) : Sem Value).run P w = .ok (.bool false) w
  eqN : ∀ (w : World) (x y : Operand), (do eqGuard .eql t x y (.pointer none) (.pointer none); binOp .eql t (.pointer none) (.pointer none) : Sem Value).run P w = .ok (.bool true) w
  neS : ∀ (w : World) (x y : Operand) (a : Addr), (do eqGuard .neq t x y (.pointer (some a)) (.pointer none); binOp .neq t (.pointer (some a)) (.pointer none) : Sem Value).run P w = .ok (.bool true) w
  neN : ∀ (w : World) (x y : Operand), (do eqGuard .neq t x y (.pointer none) (.pointer none); binOp .neq t (.pointer none) (.pointer none) : Sem Value).run P w = .ok (.bool false) w
section
variable {P : Program} {w : World} {t : TypeId} [PtE P t] {x y : Operand} {K : Bool → World → Prop}
theorem RunN.pEqS {a : Addr} (h : K false w) : RunN P .bool (V (do eqGuard .eql t x y (.pointer (some a)) (.pointer none); binOp .eql t (.pointer (some a)) (.pointer none))) w K := RunN.of (kd := .bool) (PtE.eqS w x y a) h
theorem RunN.pEqN (h : K true w) : RunN P .bool (V (do eqGuard .eql t x y (.pointer none) (.pointer none); binOp .eql t (.pointer none) (.pointer none))) w K := RunN.of (kd := .bool) (PtE.eqN w x y) h
theorem RunN.pNeS {a : Addr} (h : K true w) : RunN P .bool (V (do eqGuard .neq t x y (.pointer (some a)) (.pointer none); binOp .neq t (.pointer (some a)) (.pointer none))) w K := RunN.of (kd := .bool) (PtE.neS w x y a) h
theorem RunN.pNeN (h : K false w) : RunN P .bool (V (do eqGuard .neq t x y (.pointer none) (.pointer none); binOp .neq t (.pointer none) (.pointer none))) w K := RunN.of (kd := .bool) (PtE.neN w x y) h
end
end Go.Fw
namespace Go.Fw
open Go
variable {w0 w : World}
theorem u8w (x : Int) : ∃ b : UInt8, Value.int .u8 (IntKind.u8.wrap x) = u8v b ∧ (b.toNat : Int) = IntKind.u8.wrap x := by
  have h : 0 ≤ IntKind.u8.wrap x ∧ IntKind.u8.wrap x ≤ 255 := by rw [IntKind.wrap_u8]; omega
  refine ⟨UInt8.ofNat (IntKind.u8.wrap x).toNat, ?_, ?_⟩
  · simp only [u8v, UInt8.toNat_ofNat']; congr 1; omega
  · rw [UInt8.toNat_ofNat']; omega
theorem bys_set (l : List UInt8) (i : Nat) (b : UInt8) : (bys l).set i (u8v b) = bys (l.set i b) := by
  simp [bys, List.map_set]
theorem one_slice {s : Sl} : ∀ v ∈ [Value.slice s.a s.len s.cap], v.oneCell' = true := by intro v hv; simp at hv; subst hv; rfl
theorem one_int {k : IntKind} {x : Int} : ∀ v ∈ [Value.int k x], v.oneCell' = true := by intro v hv; simp at hv; subst hv; rfl
theorem one_str {x : ByteArray} : ∀ v ∈ [Value.string x], v.oneCell' = true := by intro v hv; simp at hv; subst hv; rfl

/-- A row of bytes that grows from its old one: it holds it as its beginning, or the old one is left. -/
def Grow (E : TypeId) (w0 w : World) (q : Sl) (v : List UInt8) (d : Sl) (e : List UInt8) (G : Grps) : Prop :=
  q.len = v.length ∧ d.len = v.length + e.length ∧ (d.a = q.a ∧ d.cap = q.cap ∧ St w0 w ([.row E 1 d (bys (v ++ e))] :: G) ∨ St w0 w ([.row E 1 d (bys (v ++ e)), .row E 1 q (bys v)] :: G))
theorem Grow.start {E : TypeId} {q : Sl} {v : List UInt8} {G : Grps} (h : St w0 w ([.row E 1 q (bys v)] :: G)) : Grow E w0 w q v q [] G := by
  have hl := (h.rd (k := 0) (i := 0) ⟨_, rfl, rfl⟩).bys_len
  exact ⟨hl, by simpa using hl, .inl ⟨rfl, rfl, by simpa using h⟩⟩
theorem Grow.app {P : Program} {t E : TypeId} [et : Et P t E 1 1] (hbs : ∀ (w : World) (x : Int), (Instr.buildSlice t 1 #[(0, .int .u8 x)]).run P w = .ok (.slice (some ⟨w.heap.size, 0, none⟩) 1 1) (w.alloc (.cells ⟨[.int .u8 x]⟩ E)))
    {q : Sl} {v : List UInt8} {d : Sl} {e : List UInt8} {G : Grps} (hg : Grow E w0 w q v d e G) (x : Int) (b : UInt8) (hb : Value.int .u8 x = u8v b) (hl : v.length + e.length ≤ 1048576000) {ty : TypeId} {K : Sl → World → Prop}
    (hk : ∀ d' w', Grow E w0 w' q v d' (e ++ [b]) G → K d' w') :
    RunN P .sl (V (Instr.buildSlice t 1 #[(0, .int .u8 x)])) w fun u w =>
      RunN P .sl (V (Builtin.append_ #[t, t] ty #[.slice d.a d.len d.cap, .slice u.a u.len u.cap])) w fun u' w => K u' w := by
  obtain ⟨hql, hdl, hc⟩ := hg
  have ebb : bys (v ++ e) ++ [Value.int .u8 x] = bys (v ++ (e ++ [b])) := by
    rw [hb, ← List.append_assoc, bys_append (v ++ e)]; rfl
  rcases hc with ⟨ha, hcap, h⟩ | h
  · refine h.newS 1 (hbs _ _) rfl rfl rfl ?_
    intro u w hl1 hc1 _ h
    refine h.appKeep 1 0 ⟨_, rfl, rfl⟩ (h.rd (k := 0) (i := 0) ⟨_, rfl, rfl⟩) one_int (by simp only [maxLen]; omega) (by omega) ?_
    intro d' w hl' hd
    rw [ebb] at hd
    refine hk d' w ⟨hql, by simp; omega, ?_⟩
    rcases hd with ⟨ha', hc', h⟩ | h
    · dsimp only [updG, setO] at h
      exact .inl ⟨ha'.trans ha, hc'.trans hcap, h.drop 0⟩
    · dsimp only [updG, delO, List.append_nil] at h
      have h := h.drop 0
      dsimp only [delO] at h
      have hrd := h.preR (k := 0) (i := 1) ⟨_, rfl, rfl⟩ (hi := v.length) (by omega)
      dsimp only [updG, setO] at hrd
      right
      have e1 : (bys (v ++ e)).take (v.length * 1) = bys v := by rw [Nat.mul_one, bys_append, List.take_append_of_le_length (by simp), List.take_of_length_le (by simp)]
      have e2 : subS d 0 v.length 1 = q := by
        rw [subS_zero, ha, hcap, ← hql]
      rw [e1, e2] at hrd
      exact hrd
  · refine h.newS 1 (hbs _ _) rfl rfl rfl ?_
    intro u w hl1 hc1 _ h
    refine h.app 1 0 ⟨_, rfl, rfl⟩ (h.rd (k := 0) (i := 0) ⟨_, rfl, rfl⟩) one_int (by simp only [maxLen]; omega) (by omega) ?_
    intro d' w hl' h
    dsimp only [updG, setO] at h
    rw [ebb] at h
    exact hk d' w ⟨hql, by simp; omega, .inr (h.drop 0)⟩
/-- At the end the old one is there, whatever became of it. -/
theorem Grow.old {E : TypeId} {q : Sl} {v : List UInt8} {d : Sl} {e : List UInt8} {G : Grps} (hg : Grow E w0 w q v d e G) : St w0 w ([.row E 1 q (bys v)] :: G) := by
  obtain ⟨hql, hdl, hc⟩ := hg
  rcases hc with ⟨ha, hcap, h⟩ | h
  · have hrd := h.preR (k := 0) (i := 0) ⟨_, rfl, rfl⟩ (hi := v.length) (by omega)
    dsimp only [updG, setO] at hrd
    have e1 : (bys (v ++ e)).take (v.length * 1) = bys v := by rw [Nat.mul_one, bys_append, List.take_append_of_le_length (by simp), List.take_of_length_le (by simp)]
    have e2 : subS d 0 v.length 1 = q := by
      rw [subS_zero, ha, hcap, ← hql]
    rw [e1, e2] at hrd
    exact hrd
  · exact h.rest (k := 0) (i := 0) ⟨_, rfl, rfl⟩
end Go.Fw
namespace Go.Fw
open Go
section
variable {P : Program} {w0 w : World} {G : Grps}
theorem nthO_mem {α : Type} : ∀ {l : List α} {n : Nat} {x : α}, nthO l n = some x → x ∈ l
  | [], _, _, h => by cases h
  | y :: r, 0, x, h => by simp [nthO] at h; subst h; exact List.mem_cons_self ..
  | y :: r, n + 1, x, h => List.mem_cons_of_mem _ (nthO_mem (l := r) h)
theorem St.memG (h : St w0 w G) (k : Nat) {g : List Ent} {e : Ent} (hk : nthO G k = some g) (he : e ∈ g) : e.ok w w0.heap.size := h.fl.ok e (List.mem_flatten.2 ⟨g, nthO_mem hk, he⟩)
theorem StillV.el {t' : TypeId} [Sc P t'] {s : Sl} {sz : Nat} {vs : List Value} (h : Rd w s sz vs) {b o : Nat} (ha : s.a = some ⟨b, o, none⟩) {p : Addr} (j : Nat) (hp : p = ⟨b, o + j, none⟩) {v : Value} (hv : vs[j]? = some v) :
    StillV P (V (Instr.loadAt t' (.pointer (some p)))) v w := StillV.of (h.run_el ha j hp hv)
theorem StillV.idx {t e : TypeId} {sz by_ : Nat} [et : Et P t e sz by_] {s : Sl} {vs : List Value} (h : Rd w s sz vs) {b o : Nat} (ha : s.a = some ⟨b, o, none⟩) {kk : IntKind} {i : Int} (n : Nat) (hi : i = (n : Int)) (hn : n < s.len) :
    StillV P (V (Instr.indexAt t (.slice s.a s.len s.cap) (.int kk i))) (.pointer (some ⟨b, o + n * sz, none⟩)) w := by
  obtain ⟨b', o', ha', hr⟩ := h.run_idx (P := P) (t := t) (kk := kk) hi hn
  rw [ha] at ha'; cases ha'
  exact StillV.of hr
end
end Go.Fw
namespace Go.Fw
open Go
section
variable {P : Program} {w0 w : World} {G : Grps}
/-- The bytes of a constant text: they may be read. -/
theorem St.litC (h : St w0 w G) {t e n : Nat} {parts : Array (Nat × Value)} (l : List UInt8) (ht : P.underlying t = some (.slice e)) (he : P.underlying e = some (.int .u8)) (hn : n = l.length)
    (hr : (Instr.buildSlice t n parts).run P w = .ok (.slice (some ⟨w.heap.size, 0, none⟩) n n) (w.alloc (.cells ⟨bys l⟩ e))) {K : Sl → World → Prop}
    (hk : ∀ (s : Sl) w', s.len = l.length → St w0 w' ([.ro s 1 (bys l)] :: G) → K s w') :
    RunN P .sl (V (Instr.buildSlice t n parts)) w fun u w => RunN P .sl (V (convert t t (.slice u.a u.len u.cap))) w K := by
  refine RunN.of (kd := .sl) (x := ⟨some ⟨w.heap.size, 0, none⟩, n, n⟩) hr ?_
  refine RunN.of (kd := .sl) (x := ⟨some ⟨w.heap.size, 0, none⟩, n, n⟩) (Lib.run_convert_bytes_const w t e ⟨bys l⟩ n n ht he) (hk _ _ hn ?_)
  have hu : Upd w (w.alloc (.cells ⟨bys l⟩ e ((⟨bys l⟩ : Array Value).size, (⟨bys l⟩ : Array Value).size + 1))) nobody := Upd.alloc _ _ _
  refine h.new hu ⟨⟨fun b hb => ?_, ?_⟩, bys_one l⟩ fun j hj => ?_
  · simp [Sl.blk] at hb; subst hb; exact ⟨h.upd.size, by simp⟩
  · refine ⟨by simp [hn], .inr ⟨w.heap.size, 0, rfl, fun i v hv => ?_⟩, Nat.le_refl _⟩
    rw [cell_of_row _ _ _ ⟨bys l⟩ e _ (heap_alloc_new w _)]
    simpa using hv
  · simp [Ent.blk, Sl.blk] at hj; omega
end
end Go.Fw
