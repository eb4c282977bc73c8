/- The cache: a number is taken out of a list. -/
import Derived.Test.YtbdhmeefjlkdcaaCkD
namespace Go.Proofs.Ytbdhmeefjlkdcaa
open Go Go.Fw Go.RowKit
set_option linter.unusedVariables false
set_option linter.unusedSimpArgs false
set_option maxRecDepth 4000
set_option maxHeartbeats 2000000
variable {w0 w : World} {F G : Grps}

section
variable {P : Program}
/-- Append onto a beginning of an owned row, within it. -/
theorem run_appIn {base : Nat} {t tx ty e : TypeId} {sz by_ : Nat} (et : ET P t e sz by_) (hsz : 0 < sz) {s : Sl} {vs : List Value} (ho : Ow w base e sz s vs) {x : Value} {lo n : Nat} {news : List Value} (hs : Src P sz tx x n news w)
    (hlt : lo < s.len) (hfit : lo + n ≤ s.len) :
    ∃ w', (Builtin.append_ #[t, tx] ty #[.slice s.a lo s.cap, x]).run P w = .ok (.slice s.a (lo + n) s.cap) w' ∧ Ow w' base e sz s (vs.take (lo * sz) ++ news ++ vs.drop ((lo + n) * sz)) ∧ Upd w w' (fun k => s.blk = some k) := by
  obtain ⟨i, z, hi, hz, h1, h2, h3⟩ := et.hi
  subst h1; subst h2
  rcases ho.2 with hnil | ⟨g, o, cs, ha, hbg, hg, hlc, hcm, hcs, htake⟩
  · subst hnil; simp at hlt
  · have hroom : lo + n ≤ s.cap := by omega
    have hle : (lo + n) * i.size ≤ s.len * i.size := Nat.mul_le_mul_right _ hfit
    have hle2 : s.len * i.size ≤ s.cap * i.size := Nat.mul_le_mul_right _ hlc
    rw [Nat.add_mul] at hle
    have hnl := hs.newsLen
    have hst := run_storeCells_at P g (o + lo * i.size) e news 0 ⟨cs⟩ w hg (by simp [hs.newsLen]; omega) hs.one
    simp only [Nat.add_zero] at hst
    have hvl := ho.1
    refine ⟨w.setRow g (cs.take (o + lo * i.size) ++ news ++ cs.drop (o + lo * i.size + news.length)).toArray, ?_, ⟨by simp only [List.length_append, List.length_take, List.length_drop, hvl, hnl, Nat.add_mul]; omega, .inr ⟨g, o, _, ha, hbg, setRow_heap w g _ _ e _ hg, hlc, hcm, ?_, ?_⟩⟩, Upd.setRow _ _ _ (by simp [Sl.blk, ha])⟩
    · rw [ha]
      rcases hs.kind with ⟨e', hk⟩ | hk <;> simp [Builtin.append_, run_underlying et.ht, run_underlying hk, sizeOf, typeInfo, hi, hs.len, hroom, hs.cells, Addr.add_lit, hst]
    · simp [hnl]; omega
    · have hl1 : (cs.take (o + lo * i.size)).length = o + lo * i.size := by simp; omega
      have hv : ∀ m, vs[m]? = if m < s.len * i.size then cs[o + m]? else none := fun m => by
        rw [← htake, List.getElem?_take, List.getElem?_drop]
      refine List.ext_getElem? fun m => ?_
      simp only [List.getElem?_append, List.getElem?_take, List.getElem?_drop, List.length_append, List.length_take, List.length_drop, hv, hvl, hnl, Nat.add_mul]
      have := hcs
      repeat' split
      all_goals first | rfl | (exfalso; omega) | (congr 1; omega) | skip
theorem St.appIn (h : St w0 w G) (k i : Nat) {e : TypeId} {sz by_ : Nat} {s : Sl} {vs : List Value} (he : Has G k i (.row e sz s vs)) {t tx ty : TypeId} [et : Et P t e sz by_] {ex : TypeId} [etx : Et P tx ex sz by_] {p : Sl} {news : List Value} (lo : Nat) (hr : Rd w p sz news) (h1 : ∀ v ∈ news, v.oneCell' = true)
    (hlt : lo < s.len) (hfit : lo + p.len ≤ s.len) {K : Sl → World → Prop} (hk : ∀ w', St w0 w' (updG G k i [.row e sz s (vs.take (lo * sz) ++ news ++ vs.drop ((lo + p.len) * sz))]) → K ⟨s.a, lo + p.len, s.cap⟩ w') :
    RunN P .sl (V (Builtin.append_ #[t, tx] ty #[.slice s.a lo s.cap, .slice p.a p.len p.cap])) w K := by
  obtain ⟨w', hr', ho, hu⟩ := run_appIn (P := P) (ty := ty) et.h et.pos (h.ow he) (Src.ofRd etx.h et.pos hr h1) hlt hfit
  refine RunN.of (kd := .sl) (x := ⟨s.a, lo + p.len, s.cap⟩) hr' (hk w' (h.change1 he hu ⟨ho, fun v hv => ?_⟩ fun j hj => .inl hj))
  simp only [Ent.vals] at hv
  rcases List.mem_append.1 hv with hv | hv
  · rcases List.mem_append.1 hv with hv | hv
    · exact h.one1 he v (List.mem_of_mem_take hv)
    · exact h1 v hv
  · exact h.one1 he v (List.mem_of_mem_drop hv)
end
theorem lin_one (l : List Int) : ∀ v ∈ lin l, v.oneCell' = true := by
  intro v hv
  obtain ⟨x, _, rfl⟩ := List.mem_map.1 hv
  rfl
theorem zero1 (w : World) : (do pure (Builtin.zeroCells (← zeroValue 3).cells 1).toList : Sem (List Value)).run Try.prog w = .ok [.int .i64 0] w := by kernel_rfl
theorem delete_st (h : St w0 w G) {k i : Nat} {s : Sl} {l : List Int} (he : Has G k i (.row 3 1 s (lin l))) (hl : l.length ≤ 1048576000) {j : Nat} (hj : j < l.length) :
    CallK Try.prog .sl 25 #[.slice s.a s.len s.cap, .int .i64 (j : Int), .int .i64 ((j + 1 : Nat) : Int)] w fun (r : Sl) w' => St w0 w' (updG G k i [.row 3 1 r (lin (l.eraseIdx j))]) := by
  have hrd := h.rd he
  have hlen : s.len = l.length := by have := hrd.1; rw [lin_len] at this; omega
  have hcap := hrd.2.2
  refine T25.calls ?_
  unfold T25
  obtain ⟨q, hq⟩ := run_subLHM (P := Try.prog) (w := w) (t := 50) (s := s) (k := .i64) (kh := .i64) (km := .i64) (l := (j : Int)) (h := ((j + 1 : Nat) : Int)) (m := (s.len : Int)) rfl rfl rfl (by omega) (by omega) hrd.2.2
  refine RunN.of (kd := .sl) (x := q) hq ?_
  rw [SplitB_iff]
  refine ⟨fun hc => ?_, fun hc => ?_⟩
  · have : (j : Int) = ((j + 1 : Nat) : Int) := by simpa using hc
    omega
  · refine ReadN.sH j rfl (by omega) ?_
    refine ReadN.sL (j + 1) rfl (by omega) ?_
    rw [subS_zero]
    have hsuf := (h.drew.rd he).suf (lo := j + 1) (by omega)
    have hsl : (subS s (j + 1) s.len 1).len = l.length - (j + 1) := by simp only [subS]; omega
    refine St.appIn h.drew k i he j hsuf (fun v hv => lin_one l v (List.mem_of_mem_drop hv)) (by omega) (by rw [hsl]; omega) ?_
    intro w2 h
    rw [hsl, show j + (l.length - (j + 1)) = l.length - 1 by omega] at h ⊢
    have he2 := has_upd he (.row 3 1 s ((lin l).take (j * 1) ++ (lin l).drop ((j + 1) * 1) ++ (lin l).drop ((l.length - 1) * 1)))
    refine RunN.sLH (s := ⟨s.a, l.length - 1, s.cap⟩) (l.length - 1) s.len rfl rfl (by omega) hrd.2.2 ?_
    have e1 : (subS ⟨s.a, l.length - 1, s.cap⟩ (l.length - 1) s.len 1).len = 1 := by simp only [subS]; omega
    rw [e1]
    refine h.clear k i he2 (l.length - 1) (n := 1) (zero1 _) rfl rfl (by decide) (fun b o hb => ?_) (by omega) ?_
    · rw [subS_addr (s := ⟨s.a, l.length - 1, s.cap⟩) hb (by have := hrd.2.2; dsimp only; omega)]
    intro w3 h
    rw [upd_upd he] at h
    have he3 := has_upd he (.row 3 1 s (List.take ((l.length - 1) * 1) ((lin l).take (j * 1) ++ (lin l).drop ((j + 1) * 1) ++ (lin l).drop ((l.length - 1) * 1)) ++ [Value.int .i64 0] ++ List.drop ((l.length - 1 + 1) * 1) ((lin l).take (j * 1) ++ (lin l).drop ((j + 1) * 1) ++ (lin l).drop ((l.length - 1) * 1))))
    have h := h.preR he3 (hi := l.length - 1) (by omega)
    rw [upd_upd he, subS_zero] at h
    have e : List.take ((l.length - 1) * 1) (List.take ((l.length - 1) * 1) ((lin l).take (j * 1) ++ (lin l).drop ((j + 1) * 1) ++ (lin l).drop ((l.length - 1) * 1)) ++ [Value.int .i64 0] ++ List.drop ((l.length - 1 + 1) * 1) ((lin l).take (j * 1) ++ (lin l).drop ((j + 1) * 1) ++ (lin l).drop ((l.length - 1) * 1))) = lin (l.eraseIdx j) := by
      rw [List.eraseIdx_eq_take_drop_succ]
      refine List.ext_getElem? fun m => ?_
      simp only [lin, List.map_append, List.map_take, List.map_drop, Nat.mul_one, List.getElem?_append, List.getElem?_take, List.getElem?_drop, List.length_append, List.length_take, List.length_drop, List.length_map, List.length_cons, List.length_nil]
      repeat' split
      all_goals first | rfl | (exfalso; omega) | (congr 1; omega) | (symm; rw [List.getElem?_eq_none]; simp; omega) | skip
    rw [e] at h
    exact h
end Go.Proofs.Ytbdhmeefjlkdcaa
