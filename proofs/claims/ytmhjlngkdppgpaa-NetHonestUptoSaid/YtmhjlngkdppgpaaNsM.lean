/- The law without the document's answer: what comes out was sent. -/
import Derived.Test.YtmhjlngkdppgpaaNsL
import Derived.Test.YtmhjlngkdppgpaaNtO
namespace Go.Proofs.Ytmhjlngkdppgpaa
open Go Go.Fw Go.RowKit
set_option linter.unusedVariables false
set_option linter.unusedSimpArgs false
set_option maxRecDepth 4000
set_option maxHeartbeats 2000000
variable {w0 w : World} {F : Grps} {B : Nat} {cap : Int} {s sl : Sl} {xs ys : List (Ltr × Sl)} {ty : Nat}

theorem toRo {G : Grps} (h : St w0 w G) {k i : Nat} {E : TypeId} {sz : Nat} {s : Sl} {vs : List Value} (he : Has G k i (.row E sz s vs)) : St w0 w (updG G k i [.ro s sz vs]) := by
  have hok : Ent.ok w w0.heap.size (.ro s sz vs) := And.intro ⟨fun b hb => Ow.lt (h.ow he) hb, h.rd he⟩ fun v hv => h.one1 he v hv
  exact h.change1 he (Upd.refl _ _) hok fun j hj => .inl hj
def srow (x : Ltr × Sl) : Ent := .ro x.2 1 (bys x.1.m)
theorem srow_at {l : List (Ltr × Sl)} {i : Nat} (h : i < l.length) : nthO (l.map srow) i = some (.ro l[i].2 1 (bys l[i].1.m)) := nthO_map srow l h
theorem addSent {f t : Int} {m : List UInt8} {q : Sl} {a b : List Ent} (h : St w0 w ([.row 5 1 q (bys m)] :: a :: b :: ys.map srow :: F)) : St w0 w (a :: b :: (ys ++ [((⟨f, t, m⟩ : Ltr), q)]).map srow :: F) := by
  have h := toRo h (k := 0) (i := 0) ⟨_, rfl, rfl⟩
  dsimp only [updG, setO] at h
  have h := (((h.bring 3 rfl).bring 1 rfl).into).back 2
  rw [List.map_append]; exact h
theorem own_st {wi : World} {f t : Int} {s : Sl} {m : List UInt8} (hr : Rd wi s 1 (bys m)) (hm : m.length ≤ big) :
    CallK Try.prog KL 11 #[.agg #[.int .i64 f, .int .i64 t, .slice s.a s.len s.cap]] wi fun (r : Int × Int × Sl × Unit) w' => r.1 = f ∧ r.2.1 = t ∧ St wi w' [[.row 5 1 r.2.2.1 (bys m)]] :=
  (own_ok hr hm).mono fun r w' ⟨hu, h1, h2, ho⟩ => ⟨h1, h2, St.ofOw hu ho (bys_one _)⟩

theorem sent_len (h : St w0 w ([.row 31 3 sl (row ys)] :: F)) : sl.len = ys.length := by
  have := (h.rd (k := 0) (i := 0) ⟨_, rfl, rfl⟩).1
  rw [row_len] at this; omega
theorem find_st (h : St w0 w ([.row 31 3 sl (row ys)] :: ys.map srow :: F)) (hlen : ys.length ≤ 65536) {f t : Int} {q : Sl} {m : List UInt8} (hq : Sees w0 F q 1 (bys m)) :
    CallK Try.prog (.int .i64) 26 #[.slice sl.a sl.len sl.cap, .agg #[.int .i64 f, .int .i64 t, .slice q.a q.len q.cap]] w fun (r : Int) w' =>
      ((∃ (a : Nat) (ha : a < ys.length), r = (a : Int) ∧ ys[a].1 = ⟨f, t, m⟩) ∨ (r = -1 ∧ ∀ y ∈ ys, y.1 ≠ ⟨f, t, m⟩)) ∧ St w0 w' ([.row 31 3 sl (row ys)] :: ys.map srow :: F) := by
  have hsl := sent_len h
  refine T26.calls (p1 := (f, t, q, ())) ?_
  unfold T26
  first | refine h.newB run_boxA rfl ?_ | refine h.drew.newB run_boxA rfl ?_
  intro t3 w h
  try dsimp only at h
  refine LoopX.mk (fun st w' => ∃ k : Nat, k ≤ ys.length ∧ st.1 = (k : Int) ∧ (∀ a (ha : a < ys.length), a < k → ys[a].1 ≠ ⟨f, t, m⟩) ∧ St w0 w' ([.cel t3 31 [.int .i64 f, .int .i64 t, .slice q.a q.len q.cap]] :: [.row 31 3 sl (row ys)] :: ys.map srow :: F)) (fun st => ys.length - st.1.toNat) ⟨0, Nat.zero_le _, rfl, fun a _ h0 => by omega, h⟩ ?_
  clear h
  rintro ⟨_, ⟨⟩⟩ w ⟨k, hk, rfl, hno, h⟩ K hK
  dsimp only at h hK ⊢
  rw [SplitB_iff]
  refine ⟨fun hc => ?_, fun hc => ?_⟩
  · have hc : k < ys.length := by have := of_decide_eq_true hc; omega
    have h := h.drew
    refine (h.rd (k := 1) (i := 0) ⟨_, rfl, rfl⟩).idxR k rfl (by omega) ?_
    intro b o hb
    refine (h.rd (k := 1) (i := 0) ⟨_, rfl, rfl⟩).elAR hb (k * 3) rfl (ys[k].1.f, ys[k].1.t, ys[k].2, ()) (row_at _ _ hc) ?_
    refine h.readA 0 0 ⟨_, rfl, rfl⟩ rfl (f, t, q, ()) (hk := ?_)
    refine (alike_st (h.rdo (k := 2) (i := k) ⟨_, rfl, srow_at hc⟩) (hq _ (((h.drop 0).drop 0).drop 0))).mono ?_
    rintro r w ⟨hu, hr⟩
    have h := h.keep hu
    dsimp only at hr
    rw [SplitB_iff]
    refine ⟨fun hz => ?_, fun hz => ?_⟩
    · obtain ⟨h1, h2, h3⟩ := hr.1 hz
      refine ⟨.inl ⟨k, hc, rfl, ?_⟩, h.drop 0⟩
      rw [← h1, ← h2, ← h3]
    · refine hK _ _ ⟨k + 1, hc, by dsimp only; rw [wr (by omega)]; omega, fun a ha hak => ?_, h⟩ (by dsimp only; rw [wr (by omega)]; omega)
      rcases Nat.lt_or_ge a k with hlt | hge
      · exact hno a ha hlt
      · have : a = k := by omega
        subst this
        intro e
        rw [Bool.eq_false_iff] at hz
        exact hz (hr.2 (by rw [e]; exact ⟨rfl, rfl, rfl⟩))
  · have hc : k = ys.length := by have := of_decide_eq_false hc; omega
    subst hc
    refine ⟨.inr ⟨rfl, fun y hy => ?_⟩, h.drop 0⟩
    obtain ⟨a, ha, rfl⟩ := List.getElem_of_mem hy
    exact hno a ha ha

theorem perm_rem {xs ys : List (Ltr × Sl)} (hp : (contS xs).Perm (contS ys)) {n a : Nat} (hn : n < xs.length) (ha : a < ys.length) (he : ys[a].1 = xs[n].1) : (contS (xs.eraseIdx n)).Perm (contS (ys.eraseIdx a)) := by
  have key : ∀ (l : List Ltr) (i : Nat) (hi : i < l.length), l.Perm (l[i] :: l.eraseIdx i) := fun l i hi => by
    have h1 := nthO_perm (l := l) (n := i) (x := l[i]) (by rw [nthO_get]; simp [hi])
    have h2 := delO_map (fun x : Ltr => x) l i
    simp only [List.map_id'] at h2
    rwa [h2] at h1
  have h1 := key (contS xs) n (by simpa [contS] using hn)
  have h2 := key (contS ys) a (by simpa [contS] using ha)
  have e1 : (contS xs)[n]'(by simpa [contS] using hn) = xs[n].1 := by simp [contS]
  have e2 : (contS ys)[a]'(by simpa [contS] using ha) = xs[n].1 := by simp [contS, he]
  rw [e1] at h1
  rw [e2] at h2
  rw [contS_erase, contS_erase]
  exact ((h1.symm.trans hp).trans h2).cons_inv
/-- One of the sent taken out, in its place. -/
theorem remove_rn (h : St w0 w ([.row 31 3 sl (row ys)] :: ys.map srow :: F)) (hlen : ys.length ≤ 65536) {a : Nat} (ha : a < ys.length) {x : Int} (hx : x = ((a : Nat) : Int) + 1) {K : Sl → World → Prop}
    (hk : ∀ s' w', St w0 w' ([.row 31 3 s' (row (ys.eraseIdx a))] :: (ys.eraseIdx a).map srow :: F) → K s' w') :
    ReadN Try.prog .sl (V (Instr.sliceAt 22 (.slice sl.a sl.len sl.cap) none (some (.int .i64 (a : Int))) none)) w fun t172 =>
    ReadN Try.prog .sl (V (Instr.sliceAt 22 (.slice sl.a sl.len sl.cap) (some (.int .i64 x)) none none)) w fun t176 =>
    RunN Try.prog .sl (V (Builtin.append_ #[22, 22] 22 #[.slice t172.a t172.len t172.cap, .slice t176.a t176.len t176.cap])) w fun t177 w => K t177 w := by
  have hsl := sent_len h
  have hcap := (h.rd (k := 0) (i := 0) ⟨_, rfl, rfl⟩).2.2
  refine ReadN.sH a rfl (by omega) ?_
  refine ReadN.sL (a + 1) (by omega) (by omega) ?_
  have hr := (h.rd (k := 0) (i := 0) ⟨_, rfl, rfl⟩).suf (lo := a + 1) (by omega)
  have h := h.preR (k := 0) (i := 0) ⟨_, rfl, rfl⟩ (hi := a) (by omega)
  dsimp only [updG, setO] at h
  rw [row_drop] at hr
  rw [row_take] at h
  refine h.app 0 0 ⟨_, rfl, rfl⟩ hr (row_one _) (by simp only [subS, maxLen]; omega) (by simp only [subS]; omega) ?_
  intro s' w _ h
  dsimp only [updG, setO] at h
  rw [← row_append, ← List.eraseIdx_eq_take_drop_succ] at h
  have h := h.rest (k := 1) (i := a) (e := srow ys[a]) ⟨_, rfl, nthO_map srow ys ha⟩
  dsimp only [updG, List.nil_append] at h
  rw [delO_map] at h
  exact hk s' w h

def Hon (N : Nat) (xs ys : List (Ltr × Sl)) : Prop := (contS xs).Perm (contS ys) ∧ (∀ x ∈ xs, x.1.m.length ≤ mega) ∧ xs.length ≤ N
theorem Hon.len {N : Nat} (h : Hon N xs ys) : ys.length = xs.length := by have := h.1.length_eq; simpa [contS] using this.symm
theorem Hon.lensY {N : Nat} (h : Hon N xs ys) : ∀ y ∈ ys, y.1.m.length ≤ mega := by
  intro y hy
  have : y.1 ∈ contS xs := h.1.mem_iff.2 (List.mem_map.2 ⟨y, hy, rfl⟩)
  obtain ⟨x, hx, e⟩ := List.mem_map.1 this
  rw [← e]; exact h.2.1 x hx
theorem Hon.found {N : Nat} (h : Hon N xs ys) {n : Nat} (hn : n < xs.length) (hno : ∀ y ∈ ys, y.1 ≠ xs[n].1) : False := by
  have : xs[n].1 ∈ contS ys := h.1.mem_iff.1 (List.mem_map.2 ⟨_, List.getElem_mem hn, rfl⟩)
  obtain ⟨y, hy, e⟩ := List.mem_map.1 this
  exact hno y hy e
theorem Hon.rem {N : Nat} (h : Hon N xs ys) {n a : Nat} (hn : n < xs.length) (ha : a < ys.length) (he : ys[a].1 = xs[n].1) : Hon N (xs.eraseIdx n) (ys.eraseIdx a) :=
  ⟨perm_rem h.1 hn ha he, fun x hx => h.2.1 x (List.mem_of_mem_eraseIdx hx), by have := h.2.2; rw [List.length_eraseIdx_of_lt hn]; omega⟩
theorem Hon.add {N : Nat} (h : Hon N xs ys) {x : Ltr} {q q' : Sl} (hm : x.m.length ≤ mega) (hl : xs.length < N) : Hon N (xs ++ [(x, q)]) (ys ++ [(x, q')]) := by
  refine ⟨by simp only [contS, List.map_append, List.map_cons, List.map_nil]; exact h.1.append_right _, fun y hy => ?_, by simp; omega⟩
  rcases List.mem_append.1 hy with hy | hy
  · exact h.2.1 y hy
  · simp at hy; subst hy; exact hm
theorem bs5 (w : World) : (Instr.buildSlice 29 5 #[(0, .int .u8 102), (1, .int .u8 105), (2, .int .u8 114), (3, .int .u8 115), (4, .int .u8 116)]).run Try.prog w = .ok (.slice (some ⟨w.heap.size, 0, none⟩) 5 5) (w.alloc (.cells ⟨bys [102, 105, 114, 115, 116]⟩ 5)) := by kernel_rfl
instance : NewC Try.prog 48 [.int .i64 0, .int .i64 0, .int .i64 0, .int .i64 0, .int .i64 0, .int .i64 0, .slice none 0 0] := ⟨fun w => by kernel_rfl⟩

theorem law7 {wi : World} {s0 : Sl} {os : List Opv} (hs : Scr wi s0 os) {n0 : Int} : CallK Try.prog .bool 7 #[.int .i64 n0, .slice s0.a s0.len s0.cap] wi fun (r : Bool) w' => Upd wi w' nobody ∧ r = true := by
  have hl := hs.len
  have hcap := hs.rd.2.2
  have hmg : mega = 1048576 := rfl
  have hbg : big = 140737488355328 := rfl
  have h := St.init wi
  refine T7.calls ?_
  unfold T7
  refine (fits_st hs).mono ?_
  rintro r w ⟨hw, hfit⟩
  have hw := hw.symm
  subst hw
  rw [SplitB_iff]
  refine ⟨fun hc => ?_, fun hc => ?_⟩
  · exact ⟨Upd.refl _ _, rfl⟩
  obtain ⟨h2000, hmega⟩ := hfit (by simpa using hc)
  clear hc hfit
  obtain ⟨ha1, ha2⟩ := and1023 n0
  rw [wr (by omega)]
  generalize hn : 1 + bitAnd .i64 n0 1023 = nn at *
  obtain ⟨N, rfl⟩ : ∃ N : Nat, nn = (N : Int) := ⟨nn.toNat, by omega⟩
  refine (new_st h (n := (N : Int))).mono ?_
  rintro r w (⟨hN1, hN2, B, rfl, h⟩ | ⟨hN, rfl, h⟩)
  rotate_left
  · omega
  refine JoinX.mk (fun j w' => j.1 = false ∧ St wi w' (bagG 54 B (N : Int) ⟨none, 0, 0⟩ [] :: [])) ?_ ?_
  rotate_left
  · intro k1 hk1
    refine num_st.mono ?_
    rintro r w ⟨rfl, rfl⟩
    rw [SplitB_iff]
    refine ⟨fun hz => ?_, fun hz => ?_⟩
    · simp at hz
    · skip
      first | refine RunN.pEqS ?_ | refine RunN.pEqN ?_ | refine RunN.pNeS ?_ | refine RunN.pNeN ?_
      exact hk1 _ _ ⟨rfl, h⟩
  rintro ⟨_, ⟨⟩⟩ w ⟨hj, h⟩
  dsimp only at hj h ⊢
  subst hj
  rw [SplitB_iff]
  refine ⟨fun hz => ?_, fun hz => ?_⟩
  · simp at hz
  refine JoinX.mk (fun j w' => j.1 = false ∧ ∃ s q, St wi w' (bagG 54 B (N : Int) s [(⟨-1, -1, [102, 105, 114, 115, 116]⟩, q)] :: [])) ?_ ?_
  rotate_left
  · intro k3 hk3
    refine h.litC [102, 105, 114, 115, 116] et29.ht (by kernel_rfl) rfl (bs5 _) ?_
    intro s1 w h1 h
    refine (send_st (h.bring 1 rfl) (by simp) (p := s1) (m := [102, 105, 114, 115, 116]) (f := -1) (t := -1) (fun w h => h.rdo (k := 0) (i := 0) ⟨_, rfl, rfl⟩) (by decide)).mono ?_
    rintro r w (⟨hf, rfl, h⟩ | ⟨hf, rfl, s', q, h⟩)
    · simp at hf; omega
    · refine num_st.mono ?_
      rintro r w ⟨rfl, rfl⟩
      rw [SplitB_iff]
      refine ⟨fun hz => ?_, fun hz => ?_⟩
      · simp at hz
      · refine (len_st h).mono ?_
        rintro r w ⟨rfl, rfl⟩
        exact hk3 _ _ ⟨by simp, s', q, h.drop 1⟩
  rintro ⟨_, ⟨⟩⟩ w ⟨hj, s, q, h⟩
  dsimp only at hj h ⊢
  subst hj
  rw [SplitB_iff]
  refine ⟨fun hz => ?_, fun hz => ?_⟩
  · simp at hz
  refine h.litC [102, 105, 114, 115, 116] et29.ht (by kernel_rfl) rfl (bs5 _) ?_
  intro s1 w h1 h
  refine h.newS 3 (bs22 _ _ _ _) rfl rfl rfl ?_
  intro s2 w h2 h3 _ h
  refine h.appNil (h.rd (k := 0) (i := 0) ⟨_, rfl, rfl⟩) (lc_one _ _ _) (by simp only [maxLen]; omega) (by omega) ?_
  intro s3 w h4 h
  have h := (h.drop 1).bring 2 rfl
  dsimp only [delO] at h
  -- the script
  refine LoopX.mk (fun st w' => ∃ (k : Nat) (s sl : Sl) (xs ys : List (Ltr × Sl)), k ≤ os.length ∧ st.2.1 = (k : Int) ∧ st.1 = sl ∧ Hon N xs ys ∧ St wi w' (bagG 54 B (N : Int) s xs :: [.row 31 3 sl (row ys)] :: ys.map srow :: [])) (fun st => os.length - st.2.1.toNat)
    ⟨0, s, s3, [(⟨-1, -1, [102, 105, 114, 115, 116]⟩, q)], [(⟨-1, -1, [102, 105, 114, 115, 116]⟩, s1)], Nat.zero_le _, rfl, rfl, ⟨.refl _, by simp; decide, by simp; omega⟩, h⟩ ?_
  clear h
  rintro ⟨sl, _, ⟨⟩⟩ w ⟨k, s, _, xs, ys, hk, rfl, rfl, hon, h⟩ K hK
  dsimp only at h hK ⊢
  have hyl := hon.len
  have hxN := hon.2.2
  have hbig : ∀ x ∈ xs, x.1.m.length ≤ big := fun x hx => Nat.le_trans (hon.2.1 x hx) (by decide)
  have hsl := sent_len (h.bring 1 rfl)
  rw [SplitB_iff]
  refine ⟨fun hc => ?_, fun hc => ?_⟩
  · have hc : k < os.length := by have := of_decide_eq_true hc; omega
    refine (h.old hs.rd).idxK k rfl (by omega) ?_
    intro b o hb
    refine (h.old hs.rd).elA hb (k * 7) rfl (os[k].kk, os[k].wh, os[k].i, os[k].j, os[k].f, os[k].t, os[k].d, ()) (ops_at _ _ hc) ?_
    have hdm := hmega os[k] (List.getElem_mem _)
    have hdr := (hs.each os[k] (List.getElem_mem _)).1
    generalize os[k] = oo at *
    obtain ⟨kk, wh, i, j, f0, t0, d, m⟩ := oo
    dsimp only at hdm hdr ⊢
    first | refine h.newB (NewC.run _) rfl ?_ | refine h.drew.newB (NewC.run _) rfl ?_
    intro t9 w h
    try dsimp only at h
    refine h.storA 0 0 ⟨_, rfl, rfl⟩ rfl (hk := ?_)
    intro w h
    dsimp only [updG, setO] at h
    simp only [List.take_zero, List.drop, List.nil_append, List.append_nil, Nat.zero_add] at h
    refine JoinX.mk (fun j w' => ∃ s' sl' xs' ys', j.1 = sl' ∧ Hon N xs' ys' ∧ St wi w' (bagG 54 B (N : Int) s' xs' :: [.row 31 3 sl' (row ys')] :: ys'.map srow :: [])) ?_ ?_
    · rintro ⟨_, ⟨⟩⟩ w ⟨s', sl', xs', ys', rfl, hon', h⟩
      dsimp only at h ⊢
      refine (len_st h).mono ?_
      rintro r w ⟨rfl, rfl⟩
      have hl' := sent_len (h.bring 1 rfl)
      have hl2 := hon'.len
      rw [SplitB_iff]
      refine ⟨fun hz => ?_, fun hz => ?_⟩
      · rw [hl', hl2] at hz; simp at hz
      · exact hK _ _ ⟨k + 1, s', _, xs', ys', hc, by dsimp only; rw [wr (by omega)]; omega, rfl, hon', h⟩ (by dsimp only; rw [wr (by omega)]; omega)
    · intro k7 hk7
      repeat (first | (with_reducible refine NilP.mk ?_) | ((with_reducible refine RunN.isLoad ?_); (first | refine h.loadB 0 0 ⟨_, rfl, rfl⟩ rfl rfl ?_ | refine h.drew.loadB 0 0 ⟨_, rfl, rfl⟩ rfl rfl ?_)) | ((with_reducible refine ReadN.isLoad ?_); (first | refine h.readB 0 0 ⟨_, rfl, rfl⟩ rfl rfl ?_ | refine h.drew.readB 0 0 ⟨_, rfl, rfl⟩ rfl rfl ?_)) | ((with_reducible refine StillV.isLoad ?_); (first | refine ⟨h.stillB 0 0 ⟨_, rfl, rfl⟩ rfl rfl, ?_⟩)) | ((with_reducible refine RunU.isStor ?_); (first | (refine h.storB 0 0 ⟨_, rfl, rfl⟩ rfl rfl rfl ?_; intro w h; dsimp only [updG, setO] at h) | (refine h.drew.storB 0 0 ⟨_, rfl, rfl⟩ rfl rfl rfl ?_; intro w h; dsimp only [updG, setO] at h))) | ((with_reducible refine RunN.isBox ?_); (first | (refine h.newB run_boxA rfl ?_; intro bn w h; try dsimp only at h) | (refine h.drew.newB run_boxA rfl ?_; intro bn w h; try dsimp only at h))) | ((with_reducible refine RunN.isNew ?_); (first | (refine h.newB (NewC.run _) rfl ?_; intro bn w h) | (refine h.drew.newB (NewC.run _) rfl ?_; intro bn w h))))
      rw [SplitB_iff]
      refine ⟨fun h1 => ?_, fun h1 => ?_⟩
      · refine h.loadA 0 0 ⟨_, rfl, rfl⟩ rfl (f0, t0, d, ()) (hk := ?_)
        refine (own_st (h.old hdr) (by omega)).mono ?_
        rintro ⟨f', t', q, ⟨⟩⟩ w ⟨e1, e2, hq⟩
        dsimp only at e1 e2 hq
        subst e1; subst e2
        have h := h.join hq
        refine (send_st (h.bring 2 rfl) (by omega) (p := q) (m := m) (f := f') (t := t') (fun w h => h.rd (k := 0) (i := 0) ⟨_, rfl, rfl⟩) (by omega)).mono ?_
        rintro r w (⟨hf, rfl, h⟩ | ⟨hf, rfl, s', q', h⟩)
        · refine num_st.mono ?_
          rintro r w ⟨rfl, rfl⟩
          rw [SplitB_iff]
          refine ⟨fun hz => ?_, fun hz => ?_⟩
          · simp at hz
          · exact hk7 _ _ ⟨s, sl, xs, ys, rfl, hon, (h.drop 1).drop 1⟩
        · refine num_st.mono ?_
          rintro r w ⟨rfl, rfl⟩
          rw [SplitB_iff]
          refine ⟨fun hz => ?_, fun hz => ?_⟩
          · have h := h.drop 1
            dsimp only [delO] at h
            refine h.loadA 1 0 ⟨_, rfl, rfl⟩ rfl (f', t', d, ()) (hk := ?_)
            refine (own_st (h.old hdr) (by omega)).mono ?_
            rintro ⟨f2, t2, q2, ⟨⟩⟩ w ⟨e1, e2, hq⟩
            dsimp only at e1 e2 hq
            subst e1; subst e2
            have h := h.join hq
            refine h.newS 3 (bs22 _ _ _ _) rfl rfl rfl ?_
            intro s4 w h1 h2 h3 h
            refine h.app 4 0 ⟨_, rfl, rfl⟩ (h.rd (k := 0) (i := 0) ⟨_, rfl, rfl⟩) (lc_one _ _ _) (by simp only [maxLen]; omega) (by omega) ?_
            intro s5 w h5 h
            dsimp only [updG, setO] at h
            have h := h.drop 0
            dsimp only [delO] at h
            have h := addSent (f := f2) (t := t2) (h.drop 2)
            refine hk7 _ _ ⟨s', s5, _, _, rfl, hon.add (x := ⟨f2, t2, m⟩) (q := q') (q' := q2) hdm (by omega), ?_⟩
            rw [row_append]
            exact h
          · simp at hz
      · skip
        rw [SplitB_iff]
        refine ⟨fun h4 => ?_, fun h4 => ?_⟩
        · skip
          repeat (first | (with_reducible refine NilP.mk ?_) | ((with_reducible refine RunN.isLoad ?_); (first | refine h.loadB 0 0 ⟨_, rfl, rfl⟩ rfl rfl ?_ | refine h.drew.loadB 0 0 ⟨_, rfl, rfl⟩ rfl rfl ?_)) | ((with_reducible refine ReadN.isLoad ?_); (first | refine h.readB 0 0 ⟨_, rfl, rfl⟩ rfl rfl ?_ | refine h.drew.readB 0 0 ⟨_, rfl, rfl⟩ rfl rfl ?_)) | ((with_reducible refine StillV.isLoad ?_); (first | refine ⟨h.stillB 0 0 ⟨_, rfl, rfl⟩ rfl rfl, ?_⟩)) | ((with_reducible refine RunU.isStor ?_); (first | (refine h.storB 0 0 ⟨_, rfl, rfl⟩ rfl rfl rfl ?_; intro w h; dsimp only [updG, setO] at h) | (refine h.drew.storB 0 0 ⟨_, rfl, rfl⟩ rfl rfl rfl ?_; intro w h; dsimp only [updG, setO] at h))) | ((with_reducible refine RunN.isBox ?_); (first | (refine h.newB run_boxA rfl ?_; intro bn w h; try dsimp only at h) | (refine h.drew.newB run_boxA rfl ?_; intro bn w h; try dsimp only at h))) | ((with_reducible refine RunN.isNew ?_); (first | (refine h.newB (NewC.run _) rfl ?_; intro bn w h) | (refine h.drew.newB (NewC.run _) rfl ?_; intro bn w h))))
          refine (at_st (h.bring 1 rfl) (by omega) hbig (i := i)).mono ?_
          rintro r w (⟨n, hn, rfl, q, rfl, h⟩ | ⟨hni, rfl, h⟩)
          · dsimp only [delO] at h
            first | refine h.newB (NewC.run _) rfl ?_ | refine h.drew.newB (NewC.run _) rfl ?_
            intro t10 w h
            try dsimp only at h
            refine h.storA 0 0 ⟨_, rfl, rfl⟩ rfl (hk := ?_)
            intro w h
            dsimp only [updG, setO] at h
            simp only [List.take_zero, List.drop, List.nil_append, List.append_nil, Nat.zero_add] at h
            repeat (first | (with_reducible refine NilP.mk ?_) | ((with_reducible refine RunN.isLoad ?_); (first | refine h.loadB 0 0 ⟨_, rfl, rfl⟩ rfl rfl ?_ | refine h.loadB 1 0 ⟨_, rfl, rfl⟩ rfl rfl ?_ | refine h.loadB 2 0 ⟨_, rfl, rfl⟩ rfl rfl ?_ | refine h.loadB 3 0 ⟨_, rfl, rfl⟩ rfl rfl ?_ | refine h.drew.loadB 0 0 ⟨_, rfl, rfl⟩ rfl rfl ?_ | refine h.drew.loadB 1 0 ⟨_, rfl, rfl⟩ rfl rfl ?_ | refine h.drew.loadB 2 0 ⟨_, rfl, rfl⟩ rfl rfl ?_ | refine h.drew.loadB 3 0 ⟨_, rfl, rfl⟩ rfl rfl ?_)) | ((with_reducible refine ReadN.isLoad ?_); (first | refine h.readB 0 0 ⟨_, rfl, rfl⟩ rfl rfl ?_ | refine h.readB 1 0 ⟨_, rfl, rfl⟩ rfl rfl ?_ | refine h.readB 2 0 ⟨_, rfl, rfl⟩ rfl rfl ?_ | refine h.readB 3 0 ⟨_, rfl, rfl⟩ rfl rfl ?_ | refine h.drew.readB 0 0 ⟨_, rfl, rfl⟩ rfl rfl ?_ | refine h.drew.readB 1 0 ⟨_, rfl, rfl⟩ rfl rfl ?_ | refine h.drew.readB 2 0 ⟨_, rfl, rfl⟩ rfl rfl ?_ | refine h.drew.readB 3 0 ⟨_, rfl, rfl⟩ rfl rfl ?_)) | ((with_reducible refine StillV.isLoad ?_); (first | refine ⟨h.stillB 0 0 ⟨_, rfl, rfl⟩ rfl rfl, ?_⟩ | refine ⟨h.stillB 1 0 ⟨_, rfl, rfl⟩ rfl rfl, ?_⟩ | refine ⟨h.stillB 2 0 ⟨_, rfl, rfl⟩ rfl rfl, ?_⟩ | refine ⟨h.stillB 3 0 ⟨_, rfl, rfl⟩ rfl rfl, ?_⟩)) | ((with_reducible refine RunU.isStor ?_); (first | (refine h.storB 0 0 ⟨_, rfl, rfl⟩ rfl rfl rfl ?_; intro w h; dsimp only [updG, setO] at h) | (refine h.storB 1 0 ⟨_, rfl, rfl⟩ rfl rfl rfl ?_; intro w h; dsimp only [updG, setO] at h) | (refine h.storB 2 0 ⟨_, rfl, rfl⟩ rfl rfl rfl ?_; intro w h; dsimp only [updG, setO] at h) | (refine h.storB 3 0 ⟨_, rfl, rfl⟩ rfl rfl rfl ?_; intro w h; dsimp only [updG, setO] at h) | (refine h.drew.storB 0 0 ⟨_, rfl, rfl⟩ rfl rfl rfl ?_; intro w h; dsimp only [updG, setO] at h) | (refine h.drew.storB 1 0 ⟨_, rfl, rfl⟩ rfl rfl rfl ?_; intro w h; dsimp only [updG, setO] at h) | (refine h.drew.storB 2 0 ⟨_, rfl, rfl⟩ rfl rfl rfl ?_; intro w h; dsimp only [updG, setO] at h) | (refine h.drew.storB 3 0 ⟨_, rfl, rfl⟩ rfl rfl rfl ?_; intro w h; dsimp only [updG, setO] at h))) | ((with_reducible refine RunN.isBox ?_); (first | (refine h.newB run_boxA rfl ?_; intro bn w h; try dsimp only at h) | (refine h.drew.newB run_boxA rfl ?_; intro bn w h; try dsimp only at h))) | ((with_reducible refine RunN.isNew ?_); (first | (refine h.newB (NewC.run _) rfl ?_; intro bn w h) | (refine h.drew.newB (NewC.run _) rfl ?_; intro bn w h))))
            refine (double_st (h.bring 2 rfl) (by omega) hbig (i := (n : Int))).mono ?_
            rintro r w (⟨n', hn', hnn, hcf, rfl, s', q2, h⟩ | ⟨hi, hcf, rfl, h⟩ | ⟨hni, rfl, h⟩)
            · have : n = n' := by omega
              subst this
              refine num_st.mono ?_
              rintro r w ⟨rfl, rfl⟩
              rw [SplitB_iff]
              refine ⟨fun hz => ?_, fun hz => ?_⟩
              · refine num_st.mono ?_
                rintro r w ⟨rfl, rfl⟩
                rw [SplitB_iff]
                refine ⟨fun hz => ?_, fun hz => ?_⟩
                · simp at hz
                · refine h.loadA 1 0 ⟨_, rfl, rfl⟩ rfl (xs[n].1.f, xs[n].1.t, q, ()) (hk := ?_)
                  refine (own_st (h.rd (k := 2) (i := 0) ⟨_, rfl, rfl⟩) (hbig xs[n] (List.getElem_mem hn))).mono ?_
                  rintro ⟨f2, t2, q3, ⟨⟩⟩ w ⟨e1, e2, hq⟩
                  dsimp only at e1 e2 hq
                  subst e1; subst e2
                  have h := h.join hq
                  refine h.newS 3 (bs22 _ _ _ _) rfl rfl rfl ?_
                  intro s4 w h1 h2 h3 h
                  refine h.app 6 0 ⟨_, rfl, rfl⟩ (h.rd (k := 0) (i := 0) ⟨_, rfl, rfl⟩) (lc_one _ _ _) (by simp only [maxLen]; omega) (by omega) ?_
                  intro s5 w h5 h
                  dsimp only [updG, setO] at h
                  have h := h.drop 0
                  dsimp only [delO] at h
                  have h := addSent (f := xs[n].1.f) (t := xs[n].1.t) (((h.drop 2).drop 2).drop 2)
                  refine hk7 _ _ ⟨s', s5, _, _, rfl, hon.add (x := xs[n].1) (q := q2) (q' := q3) (hon.2.1 _ (List.getElem_mem hn)) (by omega), ?_⟩
                  rw [row_append]
                  exact h
              · simp at hz
            · refine num_st.mono ?_
              rintro r w ⟨rfl, rfl⟩
              rw [SplitB_iff]
              refine ⟨fun hz => ?_, fun hz => ?_⟩
              · simp at hz
              · exact hk7 _ _ ⟨s, sl, xs, ys, rfl, hon, ((h.drop 1).drop 1).drop 1⟩
            · omega
          · skip
            first | refine h.newB (NewC.run _) rfl ?_ | refine h.drew.newB (NewC.run _) rfl ?_
            intro t10 w h
            try dsimp only at h
            refine h.storA 0 0 ⟨_, rfl, rfl⟩ rfl (hk := ?_)
            intro w h
            dsimp only [updG, setO] at h
            simp only [List.take_zero, List.drop, List.nil_append, List.append_nil, Nat.zero_add] at h
            repeat (first | (with_reducible refine NilP.mk ?_) | ((with_reducible refine RunN.isLoad ?_); (first | refine h.loadB 0 0 ⟨_, rfl, rfl⟩ rfl rfl ?_ | refine h.loadB 1 0 ⟨_, rfl, rfl⟩ rfl rfl ?_ | refine h.loadB 2 0 ⟨_, rfl, rfl⟩ rfl rfl ?_ | refine h.drew.loadB 0 0 ⟨_, rfl, rfl⟩ rfl rfl ?_ | refine h.drew.loadB 1 0 ⟨_, rfl, rfl⟩ rfl rfl ?_ | refine h.drew.loadB 2 0 ⟨_, rfl, rfl⟩ rfl rfl ?_)) | ((with_reducible refine ReadN.isLoad ?_); (first | refine h.readB 0 0 ⟨_, rfl, rfl⟩ rfl rfl ?_ | refine h.readB 1 0 ⟨_, rfl, rfl⟩ rfl rfl ?_ | refine h.readB 2 0 ⟨_, rfl, rfl⟩ rfl rfl ?_ | refine h.drew.readB 0 0 ⟨_, rfl, rfl⟩ rfl rfl ?_ | refine h.drew.readB 1 0 ⟨_, rfl, rfl⟩ rfl rfl ?_ | refine h.drew.readB 2 0 ⟨_, rfl, rfl⟩ rfl rfl ?_)) | ((with_reducible refine StillV.isLoad ?_); (first | refine ⟨h.stillB 0 0 ⟨_, rfl, rfl⟩ rfl rfl, ?_⟩ | refine ⟨h.stillB 1 0 ⟨_, rfl, rfl⟩ rfl rfl, ?_⟩ | refine ⟨h.stillB 2 0 ⟨_, rfl, rfl⟩ rfl rfl, ?_⟩)) | ((with_reducible refine RunU.isStor ?_); (first | (refine h.storB 0 0 ⟨_, rfl, rfl⟩ rfl rfl rfl ?_; intro w h; dsimp only [updG, setO] at h) | (refine h.storB 1 0 ⟨_, rfl, rfl⟩ rfl rfl rfl ?_; intro w h; dsimp only [updG, setO] at h) | (refine h.storB 2 0 ⟨_, rfl, rfl⟩ rfl rfl rfl ?_; intro w h; dsimp only [updG, setO] at h) | (refine h.drew.storB 0 0 ⟨_, rfl, rfl⟩ rfl rfl rfl ?_; intro w h; dsimp only [updG, setO] at h) | (refine h.drew.storB 1 0 ⟨_, rfl, rfl⟩ rfl rfl rfl ?_; intro w h; dsimp only [updG, setO] at h) | (refine h.drew.storB 2 0 ⟨_, rfl, rfl⟩ rfl rfl rfl ?_; intro w h; dsimp only [updG, setO] at h))) | ((with_reducible refine RunN.isBox ?_); (first | (refine h.newB run_boxA rfl ?_; intro bn w h; try dsimp only at h) | (refine h.drew.newB run_boxA rfl ?_; intro bn w h; try dsimp only at h))) | ((with_reducible refine RunN.isNew ?_); (first | (refine h.newB (NewC.run _) rfl ?_; intro bn w h) | (refine h.drew.newB (NewC.run _) rfl ?_; intro bn w h))))
            refine (double_st (h.bring 1 rfl) (by omega) hbig (i := i)).mono ?_
            rintro r w (⟨n', hn', hnn, hcf, rfl, s', q2, h⟩ | ⟨hi, hcf, rfl, h⟩ | ⟨_, rfl, h⟩)
            · omega
            · omega
            · refine num_st.mono ?_
              rintro r w ⟨rfl, rfl⟩
              rw [SplitB_iff]
              refine ⟨fun hz => ?_, fun hz => ?_⟩
              · simp at hz
              · exact hk7 _ _ ⟨s, sl, xs, ys, rfl, hon, (h.drop 1).drop 1⟩
        · skip
          rw [SplitB_iff]
          refine ⟨fun h5 => ?_, fun h5 => ?_⟩
          · skip
            repeat (first | (with_reducible refine NilP.mk ?_) | ((with_reducible refine RunN.isLoad ?_); (first | refine h.loadB 0 0 ⟨_, rfl, rfl⟩ rfl rfl ?_ | refine h.drew.loadB 0 0 ⟨_, rfl, rfl⟩ rfl rfl ?_)) | ((with_reducible refine ReadN.isLoad ?_); (first | refine h.readB 0 0 ⟨_, rfl, rfl⟩ rfl rfl ?_ | refine h.drew.readB 0 0 ⟨_, rfl, rfl⟩ rfl rfl ?_)) | ((with_reducible refine StillV.isLoad ?_); (first | refine ⟨h.stillB 0 0 ⟨_, rfl, rfl⟩ rfl rfl, ?_⟩)) | ((with_reducible refine RunU.isStor ?_); (first | (refine h.storB 0 0 ⟨_, rfl, rfl⟩ rfl rfl rfl ?_; intro w h; dsimp only [updG, setO] at h) | (refine h.drew.storB 0 0 ⟨_, rfl, rfl⟩ rfl rfl rfl ?_; intro w h; dsimp only [updG, setO] at h))) | ((with_reducible refine RunN.isBox ?_); (first | (refine h.newB run_boxA rfl ?_; intro bn w h; try dsimp only at h) | (refine h.drew.newB run_boxA rfl ?_; intro bn w h; try dsimp only at h))) | ((with_reducible refine RunN.isNew ?_); (first | (refine h.newB (NewC.run _) rfl ?_; intro bn w h) | (refine h.drew.newB (NewC.run _) rfl ?_; intro bn w h))))
            refine (move_st (h.bring 1 rfl) (by omega) (i := i) (j := j)).mono ?_
            rintro r w (⟨hni, rfl, h⟩ | ⟨a, b, ha, hb, rfl, rfl, rfl, h⟩)
            · exact hk7 _ _ ⟨s, sl, xs, ys, rfl, hon, h.drop 1⟩
            · have hp := move_perm xs ha hb
              refine hk7 _ _ ⟨s, sl, _, ys, rfl, ⟨?_, fun x hx => hon.2.1 x (hp.mem_iff.1 hx), by rw [hp.length_eq]; exact hxN⟩, h.drop 1⟩
              exact (hp.map _).trans hon.1
          · refine JoinX.mk (fun (_ : Bool × Unit) w' => St wi w' ([.cel t9 48 [.int .i64 kk, .int .i64 wh, .int .i64 i, .int .i64 j, .int .i64 f0, .int .i64 t0, .slice d.a d.len d.cap]] :: bagG 54 B (N : Int) s xs :: [.row 31 3 sl (row ys)] :: ys.map srow :: [])) ?_ ?_
            rotate_left
            · intro k9 hk9
              rw [SplitB_iff]
              refine ⟨fun hz => ?_, fun hz => ?_⟩
              · exact hk9 _ _ h
              · exact hk9 _ _ h
            rintro ⟨jb, ⟨⟩⟩ w h
            dsimp only at h ⊢
            rw [SplitB_iff]
            refine ⟨fun hjb => ?_, fun hjb => ?_⟩
            rotate_left
            · exact hk7 _ _ ⟨s, sl, xs, ys, rfl, hon, h.drop 0⟩
            repeat (first | (with_reducible refine NilP.mk ?_) | ((with_reducible refine RunN.isLoad ?_); (first | refine h.loadB 0 0 ⟨_, rfl, rfl⟩ rfl rfl ?_ | refine h.drew.loadB 0 0 ⟨_, rfl, rfl⟩ rfl rfl ?_)) | ((with_reducible refine ReadN.isLoad ?_); (first | refine h.readB 0 0 ⟨_, rfl, rfl⟩ rfl rfl ?_ | refine h.drew.readB 0 0 ⟨_, rfl, rfl⟩ rfl rfl ?_)) | ((with_reducible refine StillV.isLoad ?_); (first | refine ⟨h.stillB 0 0 ⟨_, rfl, rfl⟩ rfl rfl, ?_⟩)) | ((with_reducible refine RunU.isStor ?_); (first | (refine h.storB 0 0 ⟨_, rfl, rfl⟩ rfl rfl rfl ?_; intro w h; dsimp only [updG, setO] at h) | (refine h.drew.storB 0 0 ⟨_, rfl, rfl⟩ rfl rfl rfl ?_; intro w h; dsimp only [updG, setO] at h))) | ((with_reducible refine RunN.isBox ?_); (first | (refine h.newB run_boxA rfl ?_; intro bn w h; try dsimp only at h) | (refine h.drew.newB run_boxA rfl ?_; intro bn w h; try dsimp only at h))) | ((with_reducible refine RunN.isNew ?_); (first | (refine h.newB (NewC.run _) rfl ?_; intro bn w h) | (refine h.drew.newB (NewC.run _) rfl ?_; intro bn w h))))
            refine (at_st (h.bring 1 rfl) (by omega) hbig (i := i)).mono ?_
            rintro r w (⟨n, hn, rfl, q, rfl, h⟩ | ⟨hni, rfl, h⟩)
            · dsimp only [delO] at h
              first | refine h.newB (NewC.run _) rfl ?_ | refine h.drew.newB (NewC.run _) rfl ?_
              intro t12 w h
              try dsimp only at h
              refine h.storA 0 0 ⟨_, rfl, rfl⟩ rfl (hk := ?_)
              intro w h
              dsimp only [updG, setO] at h
              simp only [List.take_zero, List.drop, List.nil_append, List.append_nil, Nat.zero_add] at h
              refine JoinX.mk (fun j w' => j.1 = 0 ∧ ∃ s', St wi w' ([.cel t12 31 [.int .i64 xs[n].1.f, .int .i64 xs[n].1.t, .slice q.a q.len q.cap]] :: [lrow (xs[n].1, q)] :: bagG 54 B (N : Int) s' (xs.eraseIdx n) :: [.row 31 3 sl (row ys)] :: ys.map srow :: [])) ?_ ?_
              · rintro ⟨_, ⟨⟩⟩ w ⟨hj0, s', h⟩
                dsimp only at hj0 h ⊢
                subst hj0
                refine h.loadA 0 0 ⟨_, rfl, rfl⟩ rfl (xs[n].1.f, xs[n].1.t, q, ()) (hk := ?_)
                refine (find_st ((h.bring 4 rfl).bring 4 rfl) (by omega) (f := xs[n].1.f) (t := xs[n].1.t) (q := q) (m := xs[n].1.m) (fun w h => h.rd (k := 1) (i := 0) ⟨_, rfl, rfl⟩)).mono ?_
                rintro r w ⟨hr, h⟩
                dsimp only [delO] at h
                rcases hr with ⟨a, ha, rfl, he⟩ | ⟨rfl, hno⟩
                · refine JoinX.mk (fun j w' => j.1 = false ∧ w' = w) ?_ ?_
                  · rintro ⟨_, ⟨⟩⟩ _ ⟨hj0, rfl⟩
                    dsimp only at hj0 ⊢
                    subst hj0
                    rw [SplitB_iff]
                    refine ⟨fun hz => ?_, fun hz => ?_⟩
                    · simp at hz
                    refine num_st.mono ?_
                    rintro r w ⟨rfl, rfl⟩
                    rw [SplitB_iff]
                    refine ⟨fun hz => ?_, fun hz => ?_⟩
                    · refine remove_rn (h.drew) (by omega) ha (by rw [wr (by omega)]) ?_
                      intro s6 w h
                      have h := (((h.drop 2).drop 2).bring 2 rfl)
                      dsimp only [delO] at h
                      exact hk7 _ _ ⟨s', s6, _, _, rfl, hon.rem hn ha he, h⟩
                    · simp at hz
                  · intro k13 hk13
                    refine num_st.mono ?_
                    rintro r w ⟨rfl, rfl⟩
                    refine num_st.mono ?_
                    rintro r w ⟨rfl, rfl⟩
                    rw [SplitB_iff]
                    refine ⟨fun hz => ?_, fun hz => ?_⟩
                    · simp at hz
                    refine num_st.mono ?_
                    rintro r w ⟨rfl, rfl⟩
                    rw [SplitB_iff]
                    refine ⟨fun hz => ?_, fun hz => ?_⟩
                    · exact hk13 _ _ ⟨by simp, rfl⟩
                    · exact hk13 _ _ ⟨rfl, rfl⟩
                · exact (hon.found hn hno).elim
              · intro k11 hk11
                repeat (first | (with_reducible refine NilP.mk ?_) | ((with_reducible refine RunN.isLoad ?_); (first | refine h.loadB 0 0 ⟨_, rfl, rfl⟩ rfl rfl ?_ | refine h.loadB 1 0 ⟨_, rfl, rfl⟩ rfl rfl ?_ | refine h.loadB 2 0 ⟨_, rfl, rfl⟩ rfl rfl ?_ | refine h.loadB 3 0 ⟨_, rfl, rfl⟩ rfl rfl ?_ | refine h.drew.loadB 0 0 ⟨_, rfl, rfl⟩ rfl rfl ?_ | refine h.drew.loadB 1 0 ⟨_, rfl, rfl⟩ rfl rfl ?_ | refine h.drew.loadB 2 0 ⟨_, rfl, rfl⟩ rfl rfl ?_ | refine h.drew.loadB 3 0 ⟨_, rfl, rfl⟩ rfl rfl ?_)) | ((with_reducible refine ReadN.isLoad ?_); (first | refine h.readB 0 0 ⟨_, rfl, rfl⟩ rfl rfl ?_ | refine h.readB 1 0 ⟨_, rfl, rfl⟩ rfl rfl ?_ | refine h.readB 2 0 ⟨_, rfl, rfl⟩ rfl rfl ?_ | refine h.readB 3 0 ⟨_, rfl, rfl⟩ rfl rfl ?_ | refine h.drew.readB 0 0 ⟨_, rfl, rfl⟩ rfl rfl ?_ | refine h.drew.readB 1 0 ⟨_, rfl, rfl⟩ rfl rfl ?_ | refine h.drew.readB 2 0 ⟨_, rfl, rfl⟩ rfl rfl ?_ | refine h.drew.readB 3 0 ⟨_, rfl, rfl⟩ rfl rfl ?_)) | ((with_reducible refine StillV.isLoad ?_); (first | refine ⟨h.stillB 0 0 ⟨_, rfl, rfl⟩ rfl rfl, ?_⟩ | refine ⟨h.stillB 1 0 ⟨_, rfl, rfl⟩ rfl rfl, ?_⟩ | refine ⟨h.stillB 2 0 ⟨_, rfl, rfl⟩ rfl rfl, ?_⟩ | refine ⟨h.stillB 3 0 ⟨_, rfl, rfl⟩ rfl rfl, ?_⟩)) | ((with_reducible refine RunU.isStor ?_); (first | (refine h.storB 0 0 ⟨_, rfl, rfl⟩ rfl rfl rfl ?_; intro w h; dsimp only [updG, setO] at h) | (refine h.storB 1 0 ⟨_, rfl, rfl⟩ rfl rfl rfl ?_; intro w h; dsimp only [updG, setO] at h) | (refine h.storB 2 0 ⟨_, rfl, rfl⟩ rfl rfl rfl ?_; intro w h; dsimp only [updG, setO] at h) | (refine h.storB 3 0 ⟨_, rfl, rfl⟩ rfl rfl rfl ?_; intro w h; dsimp only [updG, setO] at h) | (refine h.drew.storB 0 0 ⟨_, rfl, rfl⟩ rfl rfl rfl ?_; intro w h; dsimp only [updG, setO] at h) | (refine h.drew.storB 1 0 ⟨_, rfl, rfl⟩ rfl rfl rfl ?_; intro w h; dsimp only [updG, setO] at h) | (refine h.drew.storB 2 0 ⟨_, rfl, rfl⟩ rfl rfl rfl ?_; intro w h; dsimp only [updG, setO] at h) | (refine h.drew.storB 3 0 ⟨_, rfl, rfl⟩ rfl rfl rfl ?_; intro w h; dsimp only [updG, setO] at h))) | ((with_reducible refine RunN.isBox ?_); (first | (refine h.newB run_boxA rfl ?_; intro bn w h; try dsimp only at h) | (refine h.drew.newB run_boxA rfl ?_; intro bn w h; try dsimp only at h))) | ((with_reducible refine RunN.isNew ?_); (first | (refine h.newB (NewC.run _) rfl ?_; intro bn w h) | (refine h.drew.newB (NewC.run _) rfl ?_; intro bn w h))))
                rw [SplitB_iff]
                refine ⟨fun h3 => ?_, fun h3 => ?_⟩
                · skip
                  repeat (first | (with_reducible refine NilP.mk ?_) | ((with_reducible refine RunN.isLoad ?_); (first | refine h.loadB 0 0 ⟨_, rfl, rfl⟩ rfl rfl ?_ | refine h.loadB 1 0 ⟨_, rfl, rfl⟩ rfl rfl ?_ | refine h.loadB 2 0 ⟨_, rfl, rfl⟩ rfl rfl ?_ | refine h.loadB 3 0 ⟨_, rfl, rfl⟩ rfl rfl ?_ | refine h.drew.loadB 0 0 ⟨_, rfl, rfl⟩ rfl rfl ?_ | refine h.drew.loadB 1 0 ⟨_, rfl, rfl⟩ rfl rfl ?_ | refine h.drew.loadB 2 0 ⟨_, rfl, rfl⟩ rfl rfl ?_ | refine h.drew.loadB 3 0 ⟨_, rfl, rfl⟩ rfl rfl ?_)) | ((with_reducible refine ReadN.isLoad ?_); (first | refine h.readB 0 0 ⟨_, rfl, rfl⟩ rfl rfl ?_ | refine h.readB 1 0 ⟨_, rfl, rfl⟩ rfl rfl ?_ | refine h.readB 2 0 ⟨_, rfl, rfl⟩ rfl rfl ?_ | refine h.readB 3 0 ⟨_, rfl, rfl⟩ rfl rfl ?_ | refine h.drew.readB 0 0 ⟨_, rfl, rfl⟩ rfl rfl ?_ | refine h.drew.readB 1 0 ⟨_, rfl, rfl⟩ rfl rfl ?_ | refine h.drew.readB 2 0 ⟨_, rfl, rfl⟩ rfl rfl ?_ | refine h.drew.readB 3 0 ⟨_, rfl, rfl⟩ rfl rfl ?_)) | ((with_reducible refine StillV.isLoad ?_); (first | refine ⟨h.stillB 0 0 ⟨_, rfl, rfl⟩ rfl rfl, ?_⟩ | refine ⟨h.stillB 1 0 ⟨_, rfl, rfl⟩ rfl rfl, ?_⟩ | refine ⟨h.stillB 2 0 ⟨_, rfl, rfl⟩ rfl rfl, ?_⟩ | refine ⟨h.stillB 3 0 ⟨_, rfl, rfl⟩ rfl rfl, ?_⟩)) | ((with_reducible refine RunU.isStor ?_); (first | (refine h.storB 0 0 ⟨_, rfl, rfl⟩ rfl rfl rfl ?_; intro w h; dsimp only [updG, setO] at h) | (refine h.storB 1 0 ⟨_, rfl, rfl⟩ rfl rfl rfl ?_; intro w h; dsimp only [updG, setO] at h) | (refine h.storB 2 0 ⟨_, rfl, rfl⟩ rfl rfl rfl ?_; intro w h; dsimp only [updG, setO] at h) | (refine h.storB 3 0 ⟨_, rfl, rfl⟩ rfl rfl rfl ?_; intro w h; dsimp only [updG, setO] at h) | (refine h.drew.storB 0 0 ⟨_, rfl, rfl⟩ rfl rfl rfl ?_; intro w h; dsimp only [updG, setO] at h) | (refine h.drew.storB 1 0 ⟨_, rfl, rfl⟩ rfl rfl rfl ?_; intro w h; dsimp only [updG, setO] at h) | (refine h.drew.storB 2 0 ⟨_, rfl, rfl⟩ rfl rfl rfl ?_; intro w h; dsimp only [updG, setO] at h) | (refine h.drew.storB 3 0 ⟨_, rfl, rfl⟩ rfl rfl rfl ?_; intro w h; dsimp only [updG, setO] at h))) | ((with_reducible refine RunN.isBox ?_); (first | (refine h.newB run_boxA rfl ?_; intro bn w h; try dsimp only at h) | (refine h.drew.newB run_boxA rfl ?_; intro bn w h; try dsimp only at h))) | ((with_reducible refine RunN.isNew ?_); (first | (refine h.newB (NewC.run _) rfl ?_; intro bn w h) | (refine h.drew.newB (NewC.run _) rfl ?_; intro bn w h))))
                  refine (drop_st (h.bring 2 rfl) (by omega) (i := (n : Int))).mono ?_
                  rintro r w (⟨n', hn', hnn, rfl, s', h⟩ | ⟨hni, rfl, h⟩)
                  · have : n = n' := by omega
                    subst this
                    have h := (h.back 2).drop 3
                    dsimp only [insO, delO] at h
                    exact hk11 _ _ ⟨rfl, s', h⟩
                  · omega
                · skip
                  repeat (first | (with_reducible refine NilP.mk ?_) | ((with_reducible refine RunN.isLoad ?_); (first | refine h.loadB 0 0 ⟨_, rfl, rfl⟩ rfl rfl ?_ | refine h.loadB 1 0 ⟨_, rfl, rfl⟩ rfl rfl ?_ | refine h.loadB 2 0 ⟨_, rfl, rfl⟩ rfl rfl ?_ | refine h.loadB 3 0 ⟨_, rfl, rfl⟩ rfl rfl ?_ | refine h.drew.loadB 0 0 ⟨_, rfl, rfl⟩ rfl rfl ?_ | refine h.drew.loadB 1 0 ⟨_, rfl, rfl⟩ rfl rfl ?_ | refine h.drew.loadB 2 0 ⟨_, rfl, rfl⟩ rfl rfl ?_ | refine h.drew.loadB 3 0 ⟨_, rfl, rfl⟩ rfl rfl ?_)) | ((with_reducible refine ReadN.isLoad ?_); (first | refine h.readB 0 0 ⟨_, rfl, rfl⟩ rfl rfl ?_ | refine h.readB 1 0 ⟨_, rfl, rfl⟩ rfl rfl ?_ | refine h.readB 2 0 ⟨_, rfl, rfl⟩ rfl rfl ?_ | refine h.readB 3 0 ⟨_, rfl, rfl⟩ rfl rfl ?_ | refine h.drew.readB 0 0 ⟨_, rfl, rfl⟩ rfl rfl ?_ | refine h.drew.readB 1 0 ⟨_, rfl, rfl⟩ rfl rfl ?_ | refine h.drew.readB 2 0 ⟨_, rfl, rfl⟩ rfl rfl ?_ | refine h.drew.readB 3 0 ⟨_, rfl, rfl⟩ rfl rfl ?_)) | ((with_reducible refine StillV.isLoad ?_); (first | refine ⟨h.stillB 0 0 ⟨_, rfl, rfl⟩ rfl rfl, ?_⟩ | refine ⟨h.stillB 1 0 ⟨_, rfl, rfl⟩ rfl rfl, ?_⟩ | refine ⟨h.stillB 2 0 ⟨_, rfl, rfl⟩ rfl rfl, ?_⟩ | refine ⟨h.stillB 3 0 ⟨_, rfl, rfl⟩ rfl rfl, ?_⟩)) | ((with_reducible refine RunU.isStor ?_); (first | (refine h.storB 0 0 ⟨_, rfl, rfl⟩ rfl rfl rfl ?_; intro w h; dsimp only [updG, setO] at h) | (refine h.storB 1 0 ⟨_, rfl, rfl⟩ rfl rfl rfl ?_; intro w h; dsimp only [updG, setO] at h) | (refine h.storB 2 0 ⟨_, rfl, rfl⟩ rfl rfl rfl ?_; intro w h; dsimp only [updG, setO] at h) | (refine h.storB 3 0 ⟨_, rfl, rfl⟩ rfl rfl rfl ?_; intro w h; dsimp only [updG, setO] at h) | (refine h.drew.storB 0 0 ⟨_, rfl, rfl⟩ rfl rfl rfl ?_; intro w h; dsimp only [updG, setO] at h) | (refine h.drew.storB 1 0 ⟨_, rfl, rfl⟩ rfl rfl rfl ?_; intro w h; dsimp only [updG, setO] at h) | (refine h.drew.storB 2 0 ⟨_, rfl, rfl⟩ rfl rfl rfl ?_; intro w h; dsimp only [updG, setO] at h) | (refine h.drew.storB 3 0 ⟨_, rfl, rfl⟩ rfl rfl rfl ?_; intro w h; dsimp only [updG, setO] at h))) | ((with_reducible refine RunN.isBox ?_); (first | (refine h.newB run_boxA rfl ?_; intro bn w h; try dsimp only at h) | (refine h.drew.newB run_boxA rfl ?_; intro bn w h; try dsimp only at h))) | ((with_reducible refine RunN.isNew ?_); (first | (refine h.newB (NewC.run _) rfl ?_; intro bn w h) | (refine h.drew.newB (NewC.run _) rfl ?_; intro bn w h))))
                  refine (deliver_st (h.bring 2 rfl) (by omega) (i := (n : Int))).mono ?_
                  rintro r w (⟨n', hn', hnn, rfl, s', h⟩ | ⟨hni, rfl, h⟩)
                  · have : n = n' := by omega
                    subst this
                    dsimp only [delO] at h
                    first | refine h.newB (NewC.run _) rfl ?_ | refine h.drew.newB (NewC.run _) rfl ?_
                    intro t15 w h
                    try dsimp only at h
                    refine h.storA 0 0 ⟨_, rfl, rfl⟩ rfl (hk := ?_)
                    intro w h
                    dsimp only [updG, setO] at h
                    simp only [List.take_zero, List.drop, List.nil_append, List.append_nil, Nat.zero_add] at h
                    refine JoinX.mk (fun jj w' => jj.1 = false ∧ St wi w' ([.cel t15 31 [.int .i64 xs[n].1.f, .int .i64 xs[n].1.t, .slice xs[n].2.a xs[n].2.len xs[n].2.cap]] :: [lrow xs[n]] :: bagG 54 B (N : Int) s' (xs.eraseIdx n) :: [.cel t12 31 [.int .i64 xs[n].1.f, .int .i64 xs[n].1.t, .slice q.a q.len q.cap]] :: [lrow (xs[n].1, q)] :: [.cel t9 48 [.int .i64 kk, .int .i64 wh, .int .i64 (n : Int), .int .i64 j, .int .i64 f0, .int .i64 t0, .slice d.a d.len d.cap]] :: [.row 31 3 sl (row ys)] :: ys.map srow :: [])) ?_ ?_
                    · rintro ⟨_, ⟨⟩⟩ w ⟨hj0, h⟩
                      dsimp only at hj0 h ⊢
                      subst hj0
                      rw [SplitB_iff]
                      refine ⟨fun hz => ?_, fun hz => ?_⟩
                      · simp at hz
                      have h := (((h.drop 5).drop 0).drop 0).back 2
                      dsimp only [insO, delO] at h
                      exact hk11 _ _ ⟨rfl, s', h⟩
                    · intro k15 hk15
                      refine num_st.mono ?_
                      rintro r w ⟨rfl, rfl⟩
                      rw [SplitB_iff]
                      refine ⟨fun hz => ?_, fun hz => ?_⟩
                      · refine h.loadA 0 0 ⟨_, rfl, rfl⟩ rfl (xs[n].1.f, xs[n].1.t, xs[n].2, ()) (hk := ?_)
                        refine h.loadA 3 0 ⟨_, rfl, rfl⟩ rfl (xs[n].1.f, xs[n].1.t, q, ()) (hk := ?_)
                        refine (alike_st (h.rd (k := 1) (i := 0) ⟨_, rfl, rfl⟩) (h.rd (k := 4) (i := 0) ⟨_, rfl, rfl⟩)).mono ?_
                        rintro r w ⟨hu, hr⟩
                        exact hk15 _ _ ⟨by rw [hr.2 ⟨rfl, rfl, rfl⟩]; rfl, h.keep hu⟩
                      · simp at hz
                  · omega
            · skip
              first | refine h.newB (NewC.run _) rfl ?_ | refine h.drew.newB (NewC.run _) rfl ?_
              intro t12 w h
              try dsimp only at h
              refine h.storA 0 0 ⟨_, rfl, rfl⟩ rfl (hk := ?_)
              intro w h
              dsimp only [updG, setO] at h
              simp only [List.take_zero, List.drop, List.nil_append, List.append_nil, Nat.zero_add] at h
              refine JoinX.mk (fun j w' => j.1 = 40 ∧ St wi w' ([.cel t12 31 [.int .i64 0, .int .i64 0, .slice none 0 0]] :: bagG 54 B (N : Int) s xs :: [.row 31 3 sl (row ys)] :: ys.map srow :: [])) ?_ ?_
              · rintro ⟨_, ⟨⟩⟩ w ⟨hj0, h⟩
                dsimp only at hj0 h ⊢
                subst hj0
                refine h.loadA 0 0 ⟨_, rfl, rfl⟩ rfl (0, 0, ⟨none, 0, 0⟩, ()) (hk := ?_)
                refine (find_st ((h.bring 3 rfl).bring 3 rfl) (by omega) (f := 0) (t := 0) (q := ⟨none, 0, 0⟩) (m := []) (fun w h => Rd.nil _ _)).mono ?_
                rintro r w ⟨_, h⟩
                dsimp only [delO] at h
                refine JoinX.mk (fun j w' => j.1 = false ∧ w' = w) ?_ ?_
                · rintro ⟨_, ⟨⟩⟩ _ ⟨hj0, rfl⟩
                  dsimp only at hj0 ⊢
                  subst hj0
                  rw [SplitB_iff]
                  refine ⟨fun hz => ?_, fun hz => ?_⟩
                  · simp at hz
                  refine num_st.mono ?_
                  rintro r w ⟨rfl, rfl⟩
                  rw [SplitB_iff]
                  refine ⟨fun hz => ?_, fun hz => ?_⟩
                  · simp at hz
                  · have h := (h.drop 2).bring 2 rfl
                    dsimp only [delO] at h
                    exact hk7 _ _ ⟨s, sl, xs, ys, rfl, hon, h⟩
                · intro k13 hk13
                  refine num_st.mono ?_
                  rintro r w ⟨rfl, rfl⟩
                  refine num_st.mono ?_
                  rintro r w ⟨rfl, rfl⟩
                  rw [SplitB_iff]
                  refine ⟨fun hz => ?_, fun hz => ?_⟩
                  · simp at hz
                  refine num_st.mono ?_
                  rintro r w ⟨rfl, rfl⟩
                  rw [SplitB_iff]
                  refine ⟨fun hz => ?_, fun hz => ?_⟩
                  · simp at hz
                  · exact hk13 _ _ ⟨rfl, rfl⟩
              · intro k11 hk11
                repeat (first | (with_reducible refine NilP.mk ?_) | ((with_reducible refine RunN.isLoad ?_); (first | refine h.loadB 0 0 ⟨_, rfl, rfl⟩ rfl rfl ?_ | refine h.loadB 1 0 ⟨_, rfl, rfl⟩ rfl rfl ?_ | refine h.loadB 2 0 ⟨_, rfl, rfl⟩ rfl rfl ?_ | refine h.drew.loadB 0 0 ⟨_, rfl, rfl⟩ rfl rfl ?_ | refine h.drew.loadB 1 0 ⟨_, rfl, rfl⟩ rfl rfl ?_ | refine h.drew.loadB 2 0 ⟨_, rfl, rfl⟩ rfl rfl ?_)) | ((with_reducible refine ReadN.isLoad ?_); (first | refine h.readB 0 0 ⟨_, rfl, rfl⟩ rfl rfl ?_ | refine h.readB 1 0 ⟨_, rfl, rfl⟩ rfl rfl ?_ | refine h.readB 2 0 ⟨_, rfl, rfl⟩ rfl rfl ?_ | refine h.drew.readB 0 0 ⟨_, rfl, rfl⟩ rfl rfl ?_ | refine h.drew.readB 1 0 ⟨_, rfl, rfl⟩ rfl rfl ?_ | refine h.drew.readB 2 0 ⟨_, rfl, rfl⟩ rfl rfl ?_)) | ((with_reducible refine StillV.isLoad ?_); (first | refine ⟨h.stillB 0 0 ⟨_, rfl, rfl⟩ rfl rfl, ?_⟩ | refine ⟨h.stillB 1 0 ⟨_, rfl, rfl⟩ rfl rfl, ?_⟩ | refine ⟨h.stillB 2 0 ⟨_, rfl, rfl⟩ rfl rfl, ?_⟩)) | ((with_reducible refine RunU.isStor ?_); (first | (refine h.storB 0 0 ⟨_, rfl, rfl⟩ rfl rfl rfl ?_; intro w h; dsimp only [updG, setO] at h) | (refine h.storB 1 0 ⟨_, rfl, rfl⟩ rfl rfl rfl ?_; intro w h; dsimp only [updG, setO] at h) | (refine h.storB 2 0 ⟨_, rfl, rfl⟩ rfl rfl rfl ?_; intro w h; dsimp only [updG, setO] at h) | (refine h.drew.storB 0 0 ⟨_, rfl, rfl⟩ rfl rfl rfl ?_; intro w h; dsimp only [updG, setO] at h) | (refine h.drew.storB 1 0 ⟨_, rfl, rfl⟩ rfl rfl rfl ?_; intro w h; dsimp only [updG, setO] at h) | (refine h.drew.storB 2 0 ⟨_, rfl, rfl⟩ rfl rfl rfl ?_; intro w h; dsimp only [updG, setO] at h))) | ((with_reducible refine RunN.isBox ?_); (first | (refine h.newB run_boxA rfl ?_; intro bn w h; try dsimp only at h) | (refine h.drew.newB run_boxA rfl ?_; intro bn w h; try dsimp only at h))) | ((with_reducible refine RunN.isNew ?_); (first | (refine h.newB (NewC.run _) rfl ?_; intro bn w h) | (refine h.drew.newB (NewC.run _) rfl ?_; intro bn w h))))
                rw [SplitB_iff]
                refine ⟨fun h3 => ?_, fun h3 => ?_⟩
                · skip
                  repeat (first | (with_reducible refine NilP.mk ?_) | ((with_reducible refine RunN.isLoad ?_); (first | refine h.loadB 0 0 ⟨_, rfl, rfl⟩ rfl rfl ?_ | refine h.loadB 1 0 ⟨_, rfl, rfl⟩ rfl rfl ?_ | refine h.loadB 2 0 ⟨_, rfl, rfl⟩ rfl rfl ?_ | refine h.drew.loadB 0 0 ⟨_, rfl, rfl⟩ rfl rfl ?_ | refine h.drew.loadB 1 0 ⟨_, rfl, rfl⟩ rfl rfl ?_ | refine h.drew.loadB 2 0 ⟨_, rfl, rfl⟩ rfl rfl ?_)) | ((with_reducible refine ReadN.isLoad ?_); (first | refine h.readB 0 0 ⟨_, rfl, rfl⟩ rfl rfl ?_ | refine h.readB 1 0 ⟨_, rfl, rfl⟩ rfl rfl ?_ | refine h.readB 2 0 ⟨_, rfl, rfl⟩ rfl rfl ?_ | refine h.drew.readB 0 0 ⟨_, rfl, rfl⟩ rfl rfl ?_ | refine h.drew.readB 1 0 ⟨_, rfl, rfl⟩ rfl rfl ?_ | refine h.drew.readB 2 0 ⟨_, rfl, rfl⟩ rfl rfl ?_)) | ((with_reducible refine StillV.isLoad ?_); (first | refine ⟨h.stillB 0 0 ⟨_, rfl, rfl⟩ rfl rfl, ?_⟩ | refine ⟨h.stillB 1 0 ⟨_, rfl, rfl⟩ rfl rfl, ?_⟩ | refine ⟨h.stillB 2 0 ⟨_, rfl, rfl⟩ rfl rfl, ?_⟩)) | ((with_reducible refine RunU.isStor ?_); (first | (refine h.storB 0 0 ⟨_, rfl, rfl⟩ rfl rfl rfl ?_; intro w h; dsimp only [updG, setO] at h) | (refine h.storB 1 0 ⟨_, rfl, rfl⟩ rfl rfl rfl ?_; intro w h; dsimp only [updG, setO] at h) | (refine h.storB 2 0 ⟨_, rfl, rfl⟩ rfl rfl rfl ?_; intro w h; dsimp only [updG, setO] at h) | (refine h.drew.storB 0 0 ⟨_, rfl, rfl⟩ rfl rfl rfl ?_; intro w h; dsimp only [updG, setO] at h) | (refine h.drew.storB 1 0 ⟨_, rfl, rfl⟩ rfl rfl rfl ?_; intro w h; dsimp only [updG, setO] at h) | (refine h.drew.storB 2 0 ⟨_, rfl, rfl⟩ rfl rfl rfl ?_; intro w h; dsimp only [updG, setO] at h))) | ((with_reducible refine RunN.isBox ?_); (first | (refine h.newB run_boxA rfl ?_; intro bn w h; try dsimp only at h) | (refine h.drew.newB run_boxA rfl ?_; intro bn w h; try dsimp only at h))) | ((with_reducible refine RunN.isNew ?_); (first | (refine h.newB (NewC.run _) rfl ?_; intro bn w h) | (refine h.drew.newB (NewC.run _) rfl ?_; intro bn w h))))
                  refine (drop_st (h.bring 1 rfl) (by omega) (i := i)).mono ?_
                  rintro r w (⟨n', hn', hnn, rfl, s', h⟩ | ⟨_, rfl, h⟩)
                  · omega
                  · have h := (h.back 1).drop 2
                    dsimp only [insO, delO] at h
                    exact hk11 _ _ ⟨rfl, h⟩
                · skip
                  repeat (first | (with_reducible refine NilP.mk ?_) | ((with_reducible refine RunN.isLoad ?_); (first | refine h.loadB 0 0 ⟨_, rfl, rfl⟩ rfl rfl ?_ | refine h.loadB 1 0 ⟨_, rfl, rfl⟩ rfl rfl ?_ | refine h.loadB 2 0 ⟨_, rfl, rfl⟩ rfl rfl ?_ | refine h.drew.loadB 0 0 ⟨_, rfl, rfl⟩ rfl rfl ?_ | refine h.drew.loadB 1 0 ⟨_, rfl, rfl⟩ rfl rfl ?_ | refine h.drew.loadB 2 0 ⟨_, rfl, rfl⟩ rfl rfl ?_)) | ((with_reducible refine ReadN.isLoad ?_); (first | refine h.readB 0 0 ⟨_, rfl, rfl⟩ rfl rfl ?_ | refine h.readB 1 0 ⟨_, rfl, rfl⟩ rfl rfl ?_ | refine h.readB 2 0 ⟨_, rfl, rfl⟩ rfl rfl ?_ | refine h.drew.readB 0 0 ⟨_, rfl, rfl⟩ rfl rfl ?_ | refine h.drew.readB 1 0 ⟨_, rfl, rfl⟩ rfl rfl ?_ | refine h.drew.readB 2 0 ⟨_, rfl, rfl⟩ rfl rfl ?_)) | ((with_reducible refine StillV.isLoad ?_); (first | refine ⟨h.stillB 0 0 ⟨_, rfl, rfl⟩ rfl rfl, ?_⟩ | refine ⟨h.stillB 1 0 ⟨_, rfl, rfl⟩ rfl rfl, ?_⟩ | refine ⟨h.stillB 2 0 ⟨_, rfl, rfl⟩ rfl rfl, ?_⟩)) | ((with_reducible refine RunU.isStor ?_); (first | (refine h.storB 0 0 ⟨_, rfl, rfl⟩ rfl rfl rfl ?_; intro w h; dsimp only [updG, setO] at h) | (refine h.storB 1 0 ⟨_, rfl, rfl⟩ rfl rfl rfl ?_; intro w h; dsimp only [updG, setO] at h) | (refine h.storB 2 0 ⟨_, rfl, rfl⟩ rfl rfl rfl ?_; intro w h; dsimp only [updG, setO] at h) | (refine h.drew.storB 0 0 ⟨_, rfl, rfl⟩ rfl rfl rfl ?_; intro w h; dsimp only [updG, setO] at h) | (refine h.drew.storB 1 0 ⟨_, rfl, rfl⟩ rfl rfl rfl ?_; intro w h; dsimp only [updG, setO] at h) | (refine h.drew.storB 2 0 ⟨_, rfl, rfl⟩ rfl rfl rfl ?_; intro w h; dsimp only [updG, setO] at h))) | ((with_reducible refine RunN.isBox ?_); (first | (refine h.newB run_boxA rfl ?_; intro bn w h; try dsimp only at h) | (refine h.drew.newB run_boxA rfl ?_; intro bn w h; try dsimp only at h))) | ((with_reducible refine RunN.isNew ?_); (first | (refine h.newB (NewC.run _) rfl ?_; intro bn w h) | (refine h.drew.newB (NewC.run _) rfl ?_; intro bn w h))))
                  refine (deliver_st (h.bring 1 rfl) (by omega) (i := i)).mono ?_
                  rintro r w (⟨n', hn', hnn, rfl, s', h⟩ | ⟨_, rfl, h⟩)
                  · omega
                  · dsimp only [delO] at h
                    first | refine h.newB (NewC.run _) rfl ?_ | refine h.drew.newB (NewC.run _) rfl ?_
                    intro t15 w h
                    try dsimp only at h
                    refine h.storA 0 0 ⟨_, rfl, rfl⟩ rfl (hk := ?_)
                    intro w h
                    dsimp only [updG, setO] at h
                    simp only [List.take_zero, List.drop, List.nil_append, List.append_nil, Nat.zero_add] at h
                    dsimp only [JoinX]
                    refine num_st.mono ?_
                    rintro r w ⟨rfl, rfl⟩
                    rw [SplitB_iff]
                    refine ⟨fun hz => ?_, fun hz => ?_⟩
                    · simp at hz
                    · skip
                      rw [SplitB_iff]
                      refine ⟨fun hz => ?_, fun hz => ?_⟩
                      · simp at hz
                      · have h := ((h.drop 0).back 1).drop 2
                        dsimp only [insO, delO] at h
                        exact hk11 _ _ ⟨rfl, h⟩
  · -- what is left
    clear hK K hc
    refine LoopX.mk (fun st w' => ∃ (s sl : Sl) (xs ys : List (Ltr × Sl)), st.2.1 = 0 ∧ st.1 = sl ∧ Hon N xs ys ∧ St wi w' (bagG 54 B (N : Int) s xs :: [.row 31 3 sl (row ys)] :: ys.map srow :: [])) (fun st => st.1.len) ⟨s, _, xs, ys, rfl, rfl, hon, h⟩ ?_
    clear h hon hbig hxN hyl hsl
    rintro ⟨sl, _, ⟨⟩⟩ w ⟨s, _, xs, ys, rfl, rfl, hon, h⟩ K hK
    dsimp only at h hK ⊢
    have hyl := hon.len
    have hxN := hon.2.2
    have hbig : ∀ x ∈ xs, x.1.m.length ≤ big := fun x hx => Nat.le_trans (hon.2.1 x hx) (by decide)
    have hsl := sent_len (h.bring 1 rfl)
    refine (len_st h).mono ?_
    rintro r w ⟨rfl, rfl⟩
    rw [SplitB_iff]
    refine ⟨fun hc => ?_, fun hc => ?_⟩
    · have hc : 0 < xs.length := by have := of_decide_eq_true hc; omega
      refine (at_st h (by omega) hbig (i := 0)).mono ?_
      rintro r w (⟨n, hn, hn0, q, rfl, h⟩ | ⟨hni, rfl, h⟩)
      · have : n = 0 := by omega
        subst this
        first | refine h.newB (NewC.run _) rfl ?_ | refine h.drew.newB (NewC.run _) rfl ?_
        intro t19 w h
        try dsimp only at h
        refine h.storA 0 0 ⟨_, rfl, rfl⟩ rfl (hk := ?_)
        intro w h
        dsimp only [updG, setO] at h
        simp only [List.take_zero, List.drop, List.nil_append, List.append_nil, Nat.zero_add] at h
        refine h.loadA 0 0 ⟨_, rfl, rfl⟩ rfl (xs[0].1.f, xs[0].1.t, q, ()) (hk := ?_)
        refine (find_st ((h.bring 4 rfl).bring 4 rfl) (by omega) (f := xs[0].1.f) (t := xs[0].1.t) (q := q) (m := xs[0].1.m) (fun w h => h.rd (k := 1) (i := 0) ⟨_, rfl, rfl⟩)).mono ?_
        rintro r w ⟨hr, h⟩
        dsimp only [delO] at h
        rcases hr with ⟨a, ha, rfl, he⟩ | ⟨rfl, hno⟩
        · refine JoinX.mk (fun j w' => j.1 = false ∧ w' = w) ?_ ?_
          · rintro ⟨_, ⟨⟩⟩ _ ⟨hj0, rfl⟩
            dsimp only at hj0 ⊢
            subst hj0
            rw [SplitB_iff]
            refine ⟨fun hz => ?_, fun hz => ?_⟩
            · simp at hz
            refine remove_rn (h.drew) (by omega) ha (by rw [wr (by omega)]) ?_
            intro s6 w h
            have h := (((h.drop 2).drop 2).bring 2 rfl)
            dsimp only [delO] at h
            refine (drop_st h (by omega) (i := 0)).mono ?_
            rintro r w (⟨n', hn', hnn, rfl, s', h⟩ | ⟨hni, rfl, h⟩)
            · have : n' = 0 := by omega
              subst this
              have hlE := List.length_eraseIdx_of_lt ha
              have hs6 := sent_len (h.bring 1 rfl)
              refine hK _ _ ⟨s', s6, _, _, ?_, rfl, hon.rem hn ha he, h⟩ (by dsimp only; omega)
              dsimp only
              rw [wr (x := (0 : Int) - 1) (by omega), wr (by omega)]
              omega
            · omega
          · intro k19 hk19
            refine num_st.mono ?_
            rintro r w ⟨rfl, rfl⟩
            rw [SplitB_iff]
            refine ⟨fun hz => ?_, fun hz => ?_⟩
            · simp at hz
            · exact hk19 _ _ ⟨by simp, rfl⟩
        · exact (hon.found hn hno).elim
      · omega
    · have hc : xs.length = 0 := by have := of_decide_eq_false hc; omega
      refine ⟨h.upd, ?_⟩
      have : sl.len = 0 := by omega
      simp [this]
end Go.Proofs.Ytmhjlngkdppgpaa
