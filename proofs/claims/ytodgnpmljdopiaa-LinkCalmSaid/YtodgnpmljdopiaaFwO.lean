/- Rows of values that are laid out in cells. -/
import Derived.Test.YtodgnpmljdopiaaFwI
import Derived.Test.YtodgnpmljdopiaaFwZ
namespace Go.Fw
open Go Go.RowKit
set_option linter.unusedVariables false
set_option linter.unusedSimpArgs false
theorem flat_len {α : Type} {f : α → List Value} {n : Nat} (hf : ∀ x, (f x).length = n) : ∀ l : List α, (l.flatMap f).length = l.length * n
  | [] => by simp
  | x :: r => by rw [List.flatMap_cons, List.length_append, hf, flat_len hf r, List.length_cons, Nat.add_mul]; omega
theorem flat_at {α : Type} {f : α → List Value} {n : Nat} (hf : ∀ x, (f x).length = n) (l : List α) (i : Nat) (hi : i < l.length) : ((l.flatMap f).drop (i * n)).take n = f l[i] := by
  have e1 : l = l.take i ++ l[i] :: l.drop (i + 1) := by rw [← List.drop_eq_getElem_cons hi, List.take_append_drop]
  have hA : ((l.take i).flatMap f).length = i * n := by rw [flat_len hf, List.length_take, Nat.min_eq_left (by omega)]
  have e3 : l.flatMap f = (l.take i).flatMap f ++ (f l[i] ++ (l.drop (i + 1)).flatMap f) := by
    conv => lhs; rw [e1]
    rw [List.flatMap_append, List.flatMap_cons]
  rw [e3, List.drop_append, hA, Nat.sub_self, List.drop_zero, List.drop_of_length_le (by omega), List.nil_append, List.take_append_of_le_length (by rw [hf]; exact Nat.le_refl _), List.take_of_length_le (by rw [hf]; exact Nat.le_refl _)]
theorem flat_cell {α : Type} {f : α → List Value} {n : Nat} (hf : ∀ x, (f x).length = n) {l : List α} {j : Nat} (hj : j < l.length) (m : Nat) (hm : m < n) : (l.flatMap f)[j * n + m]? = (f l[j])[m]? := by
  have h := congrArg (fun y => y[m]?) (flat_at hf l j hj)
  simp only [List.getElem?_take, if_pos hm, List.getElem?_drop] at h
  exact h
theorem flat_part {α : Type} {f : α → List Value} {n : Nat} (hf : ∀ x, (f x).length = n) {l : List α} {j : Nat} (hj : j < l.length) (a k : Nat) (h : a + k ≤ n) : ((l.flatMap f).drop (j * n + a)).take k = ((f l[j]).drop a).take k := by
  rw [← flat_at hf l j hj, List.drop_take, List.take_take, List.drop_drop, Nat.min_eq_left (by omega)]
theorem flat_one {α : Type} {f : α → List Value} (h1 : ∀ x, ∀ v ∈ f x, v.oneCell' = true) (l : List α) : ∀ v ∈ l.flatMap f, v.oneCell' = true := by
  intro v hv
  obtain ⟨x, _, hx⟩ := List.mem_flatMap.1 hv
  exact h1 x v hx
section
variable {P : Program} {w0 w : World} {F G : Grps}
/-- Append onto a beginning of an owned row, within it. -/
theorem run_appIn {base : Nat} {t tx ty e : TypeId} {sz by_ : Nat} (et : ET P t e sz by_) (hsz : 0 < sz) {s : Sl} {vs : List Value} (ho : Ow w base e sz s vs) {x : Value} {lo n : Nat} {news : List Value} (hs : Src P sz tx x n news w)
    (hlt : lo < s.len) (hfit : lo + n ≤ s.len) :
    ∃ w', (Builtin.append_ #[t, tx] ty #[.slice s.a lo s.cap, x]).run P w = .ok (.slice s.a (lo + n) s.cap) w' ∧ Ow w' base e sz s (vs.take (lo * sz) ++ news ++ vs.drop ((lo + n) * sz)) ∧ Upd w w' (fun k => s.blk = some k) := by
  obtain ⟨i, z, hi, hz, h1, h2, h3⟩ := et.hi
  subst h1; subst h2
  rcases ho.2 with hnil | ⟨g, o, cs, ha, hbg, hg, hlc, hcm, hcs, htake⟩
  · subst hnil; simp at hlt
  · have hroom : lo + n ≤ s.cap := by omega
    have hle : (lo + n) * i.size ≤ s.len * i.size := Nat.mul_le_mul_right _ hfit
    have hle2 : s.len * i.size ≤ s.cap * i.size := Nat.mul_le_mul_right _ hlc
    rw [Nat.add_mul] at hle
    have hnl := hs.newsLen
    have hst := run_storeCells_at P g (o + lo * i.size) e news 0 ⟨cs⟩ w hg (by simp [hs.newsLen]; omega) hs.one
    simp only [Nat.add_zero] at hst
    have hvl := ho.1
    refine ⟨w.setRow g (cs.take (o + lo * i.size) ++ news ++ cs.drop (o + lo * i.size + news.length)).toArray, ?_, ⟨by simp only [List.length_append, List.length_take, List.length_drop, hvl, hnl, Nat.add_mul]; omega, .inr ⟨g, o, _, ha, hbg, setRow_heap w g _ _ e _ hg, hlc, hcm, ?_, ?_⟩⟩, Upd.setRow _ _ _ (by simp [Sl.blk, ha])⟩
    · rw [ha]
      rcases hs.kind with ⟨e', hk⟩ | hk <;> simp [Builtin.append_, run_underlying et.ht, run_underlying hk, sizeOf, typeInfo, hi, hs.len, hroom, hs.cells, Addr.add_lit, hst]
    · simp [hnl]; omega
    · have hl1 : (cs.take (o + lo * i.size)).length = o + lo * i.size := by simp; omega
      have hv : ∀ m, vs[m]? = if m < s.len * i.size then cs[o + m]? else none := fun m => by
        rw [← htake, List.getElem?_take, List.getElem?_drop]
      refine List.ext_getElem? fun m => ?_
      simp only [List.getElem?_append, List.getElem?_take, List.getElem?_drop, List.length_append, List.length_take, List.length_drop, hv, hvl, hnl, Nat.add_mul]
      have := hcs
      repeat' split
      all_goals first | rfl | (exfalso; omega) | (congr 1; omega) | skip
theorem St.appIn (h : St w0 w G) (k i : Nat) {e : TypeId} {sz by_ : Nat} {s : Sl} {vs : List Value} (he : Has G k i (.row e sz s vs)) {t tx ty : TypeId} [et : Et P t e sz by_] {ex : TypeId} [etx : Et P tx ex sz by_] {p : Sl} {news : List Value} (lo : Nat) (hr : Rd w p sz news) (h1 : ∀ v ∈ news, v.oneCell' = true)
    (hlt : lo < s.len) (hfit : lo + p.len ≤ s.len) {K : Sl → World → Prop} (hk : ∀ w', St w0 w' (updG G k i [.row e sz s (vs.take (lo * sz) ++ news ++ vs.drop ((lo + p.len) * sz))]) → K ⟨s.a, lo + p.len, s.cap⟩ w') :
    RunN P .sl (V (Builtin.append_ #[t, tx] ty #[.slice s.a lo s.cap, .slice p.a p.len p.cap])) w K := by
  obtain ⟨w', hr', ho, hu⟩ := run_appIn (P := P) (ty := ty) et.h et.pos (h.ow he) (Src.ofRd etx.h et.pos hr h1) hlt hfit
  refine RunN.of (kd := .sl) (x := ⟨s.a, lo + p.len, s.cap⟩) hr' (hk w' (h.change1 he hu ⟨ho, fun v hv => ?_⟩ fun j hj => .inl hj))
  simp only [Ent.vals] at hv
  rcases List.mem_append.1 hv with hv | hv
  · rcases List.mem_append.1 hv with hv | hv
    · exact h.one1 he v (List.mem_of_mem_take hv)
    · exact h1 v hv
  · exact h.one1 he v (List.mem_of_mem_drop hv)
end
end Go.Fw
