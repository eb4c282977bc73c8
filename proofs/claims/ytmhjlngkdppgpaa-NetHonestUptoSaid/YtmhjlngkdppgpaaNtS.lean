/- What the bag's functions come to. -/
import Derived.Test.YtmhjlngkdppgpaaTN
import Derived.Test.YtmhjlngkdppgpaaFwV
namespace Go.Proofs.Ytmhjlngkdppgpaa
open Go Go.Fw Go.RowKit
set_option linter.unusedVariables false
set_option linter.unusedSimpArgs false

theorem et22 : ET Try.prog 22 31 3 40 := ET.of (by kernel_rfl)
theorem et29 : ET Try.prog 29 5 1 1 := ET.of (by kernel_rfl)
theorem sc3 : scB Try.prog 3 = true := by kernel_rfl
theorem sc29 : scB Try.prog 29 = true := by kernel_rfl
theorem sc22 : scB Try.prog 22 = true := by kernel_rfl
theorem ag31 : aggB Try.prog 31 3 = true := by kernel_rfl
theorem str29 : strB Try.prog 29 5 9 = true := by kernel_rfl

def lc (f t : Int) (s : Sl) : List Value := [.int .i64 f, .int .i64 t, .slice s.a s.len s.cap]
theorem lc_one (f t : Int) (s : Sl) : ∀ v ∈ lc f t s, v.oneCell' = true := by
  intro v hv
  simp only [lc, List.mem_cons, List.not_mem_nil, or_false] at hv
  rcases hv with rfl | rfl | rfl <;> rfl
theorem box31 (w : World) (f t : Int) (s : Sl) : (Instr.box 31 (.agg #[.int .i64 f, .int .i64 t, .slice s.a s.len s.cap])).run Try.prog w = .ok (.pointer (some ⟨w.heap.size, 0, none⟩)) (w.alloc (.cells ⟨lc f t s⟩ 31)) := by kernel_rfl
theorem new31 (w : World) : (Instr.alloc 31 true (.tuple #[])).run Try.prog w = .ok (.pointer (some ⟨w.heap.size, 0, none⟩)) (w.alloc (.cells ⟨lc 0 0 ⟨none, 0, 0⟩⟩ 31)) := by kernel_rfl

theorem own_ok {w : World} {f t : Int} {s : Sl} {m : List UInt8} (hr : Rd w s 1 (bys m)) (hm : m.length ≤ 140737488355328) :
    CallK Try.prog (.agg (.cons (.int .i64) (.cons (.int .i64) (.cons .sl .nilT)))) 11 #[.agg #[.int .i64 f, .int .i64 t, .slice s.a s.len s.cap]] w fun (r : Int × Int × Sl × Unit) w' => Upd w w' nobody ∧ r.1 = f ∧ r.2.1 = t ∧ Ow w' w.heap.size 5 1 r.2.2.1 (bys m) := by
  have hlen := hr.bys_len
  refine T11.calls (p0 := (f, t, s, ())) ?_
  unfold T11
  refine RunN.newB (box31 w f t s) ?_
  intro w1 hb1 hu1 hs1
  refine RunN.newB (new31 w1) ?_
  intro w2 hb2 hu2 hs2
  have hb1 := hb1.upd hu2 (fun h => h)
  simp only [add_lit', Nat.zero_add]
  refine RunN.loadB (kd := .sl) (x := s) sc29 hb1 rfl ?_
  have hU2 := hu1.trans hu2
  refine RunN.appNil et29 ⟨5, et29⟩ (by decide) (hr.upd hU2 (fun _ _ h => h)) (bys_one _) (by simp only [maxLen]; omega) (by omega) ?_
  intro s3 w3 hl3 ho3 hu3
  have hU3 := hU2.trans hu3
  refine RunU.storB sc29 (hb1.upd hu3 (fun h => h)) (show 2 < 3 by decide) rfl ?_
  intro w4 hb4 hu4
  have ho4 := ho3.upd hu4 (fun b hb e => by have := (ho3.lt hb).1; omega)
  have hU4 := hU3.fresh hu4 (fun i hi => by omega)
  refine RunN.loadA (kd := .agg (.cons (.int .i64) (.cons (.int .i64) (.cons .sl .nilT)))) (x := (f, t, s3, ())) ag31 hb4 rfl rfl ?_
  have hb2' := (hb2.upd hu3 (fun h => h)).upd hu4 (fun h => by omega)
  refine RunU.storA ag31 hb2' rfl (ds := lc f t s3) rfl (lc_one _ _ _) ?_
  intro w5 hb5 hu5
  have ho5 := ho4.upd hu5 (fun b hb e => by have := (ho3.lt hb).1; omega)
  have hU5 := hU4.fresh hu5 (fun i hi => by omega)
  refine ReadN.loadA (kd := .agg (.cons (.int .i64) (.cons (.int .i64) (.cons .sl .nilT)))) (x := (f, t, s3, ())) ag31 hb5 rfl rfl ?_
  exact ⟨hU5, rfl, rfl, ho5.base fun b hb => by have := (ho3.lt hb).1; omega⟩

/-- A copy, or nil for nil. -/
theorem clone_ok {w : World} {s : Sl} {m : List UInt8} (hr : Rd w s 1 (bys m)) (hm : m.length ≤ 140737488355328) :
    CallK Try.prog .sl 40 #[.slice s.a s.len s.cap] w fun (r : Sl) w' => Upd w w' nobody ∧ Ow w' w.heap.size 5 1 r (bys m) := by
  have hlen := hr.bys_len
  refine T40.calls ?_
  unfold T40
  have hc : (do eqGuard .eql 29 (.tmp 3) (.const (.slice none 0 0)) (.slice s.a s.len s.cap) (.slice none 0 0); binOp .eql 29 (.slice s.a s.len s.cap) (.slice none 0 0) : Sem Value).run Try.prog w = .ok (.bool (s.a.isNone)) w := by
    cases s.a <;> kernel_rfl
  refine RunN.of (kd := .bool) hc ?_
  rw [SplitB_iff]
  constructor
  · intro hn
    have : m = [] := by
      rcases hr.2.1 with h0 | ⟨b, o, ha, _⟩
      · simpa [bys] using h0
      · rw [ha] at hn; simp at hn
    subst this
    exact ⟨Upd.refl _ _, Ow.nil _ _ _ _⟩
  · intro _
    have hbs : (Instr.buildSlice 29 0 #[]).run Try.prog w = .ok (.slice (some ⟨w.heap.size, 0, none⟩) 0 0) (w.alloc (.cells ⟨[]⟩ 5)) := by kernel_rfl
    refine RunN.newS (base := w.heap.size) (sz := 1) hbs (Nat.le_refl _) (by decide) rfl ?_
    intro w1 ho1 hu1 hs1
    refine RunN.appO et29 ⟨5, et29⟩ (by decide) ho1 (hr.upd hu1 (fun _ _ h => h)) (bys_one _) (by omega) (by simp only [maxLen]; omega) (by dsimp only; omega) ?_
    intro s2 w2 hl2 ho2 hu2 hb2
    rw [List.nil_append] at ho2
    exact ⟨hu1.fresh hu2 (fun i hi => by simp [Sl.blk] at hi; omega), ho2⟩
theorem own2_ok {w : World} {f t : Int} {s : Sl} {m : List UInt8} (hr : Rd w s 1 (bys m)) (hm : m.length ≤ 140737488355328) :
    CallK Try.prog (.agg (.cons (.int .i64) (.cons (.int .i64) (.cons .sl .nilT)))) 28 #[.agg #[.int .i64 f, .int .i64 t, .slice s.a s.len s.cap]] w fun (r : Int × Int × Sl × Unit) w' => Upd w w' nobody ∧ r.1 = f ∧ r.2.1 = t ∧ Ow w' w.heap.size 5 1 r.2.2.1 (bys m) := by
  have hlen := hr.bys_len
  refine T28.calls (p0 := (f, t, s, ())) ?_
  unfold T28
  refine RunN.newB (box31 w f t s) ?_
  intro w1 hb1 hu1 hs1
  refine RunN.newB (new31 w1) ?_
  intro w2 hb2 hu2 hs2
  have hb1 := hb1.upd hu2 (fun h => h)
  simp only [add_lit', Nat.zero_add]
  refine RunN.loadB (kd := .sl) (x := s) sc29 hb1 rfl ?_
  have hU2 := hu1.trans hu2
  refine (clone_ok (hr.upd hU2 (fun _ _ h => h)) hm).mono ?_
  rintro s3 w3 ⟨hu3, ho3⟩
  have hU3 := hU2.trans hu3
  refine RunU.storB sc29 (hb1.upd hu3 (fun h => h)) (show 2 < 3 by decide) rfl ?_
  intro w4 hb4 hu4
  have ho4 := ho3.upd hu4 (fun b hb e => by have := (ho3.lt hb).1; omega)
  have hU4 := hU3.fresh hu4 (fun i hi => by omega)
  refine RunN.loadA (kd := .agg (.cons (.int .i64) (.cons (.int .i64) (.cons .sl .nilT)))) (x := (f, t, s3, ())) ag31 hb4 rfl rfl ?_
  have hb2' := (hb2.upd hu3 (fun h => h)).upd hu4 (fun h => by omega)
  refine RunU.storA ag31 hb2' rfl (ds := lc f t s3) rfl (lc_one _ _ _) ?_
  intro w5 hb5 hu5
  have ho5 := ho4.upd hu5 (fun b hb e => by have := (ho3.lt hb).1; omega)
  have hU5 := hU4.fresh hu5 (fun i hi => by omega)
  refine ReadN.loadA (kd := .agg (.cons (.int .i64) (.cons (.int .i64) (.cons .sl .nilT)))) (x := (f, t, s3, ())) ag31 hb5 rfl rfl ?_
  exact ⟨hU5, rfl, rfl, ho5.base fun b hb => by have := (ho3.lt hb).1; omega⟩
theorem alike_ok {w : World} {f t f' t' : Int} {s s' : Sl} {m m' : List UInt8} (hr : Rd w s 1 (bys m)) (hr' : Rd w s' 1 (bys m')) :
    CallK Try.prog .bool 14 #[.agg #[.int .i64 f, .int .i64 t, .slice s.a s.len s.cap], .agg #[.int .i64 f', .int .i64 t', .slice s'.a s'.len s'.cap]] w fun (r : Bool) w' => Upd w w' nobody ∧ (r = true ↔ (f = f' ∧ t = t' ∧ m = m')) := by
  refine T14.calls (p0 := (f, t, s, ())) (p1 := (f', t', s', ())) ?_
  unfold T14
  refine RunN.newB (box31 w f t s) ?_
  intro w1 hb1 hu1 hs1
  refine RunN.newB (box31 w1 f' t' s') ?_
  intro w2 hb2 hu2 hs2
  have hb1 := hb1.upd hu2 (fun h => h)
  have hU2 := hu1.trans hu2
  simp only [add_lit', Nat.zero_add]
  refine RunN.loadB (kd := .int .i64) (x := f) sc3 hb1 rfl ?_
  refine RunN.loadB (kd := .int .i64) (x := f') sc3 hb2 rfl ?_
  rw [SplitB_iff]
  refine ⟨fun h1 => ?_, fun h1 => ⟨hU2, by simp at h1; simp [h1]⟩⟩
  have h1 : f = f' := by simpa using h1
  refine RunN.loadB (kd := .int .i64) (x := t) sc3 hb1 rfl ?_
  refine RunN.loadB (kd := .int .i64) (x := t') sc3 hb2 rfl ?_
  rw [SplitB_iff]
  refine ⟨fun h2 => ?_, fun h2 => ⟨hU2, by simp at h2; simp [h2]⟩⟩
  have h2 : t = t' := by simpa using h2
  refine RunN.loadB (kd := .sl) (x := s) sc29 hb1 rfl ?_
  refine RunN.toStr str29 (hr.upd hU2 (fun _ _ h => h)) ?_
  refine RunN.loadB (kd := .sl) (x := s') sc29 hb2 rfl ?_
  refine RunN.toStr str29 (hr'.upd hU2 (fun _ _ h => h)) ?_
  rw [toList_mk, toList_mk]
  exact ⟨hU2, by simp [h1, h2]⟩
end Go.Proofs.Ytmhjlngkdppgpaa
