/- The shelf: put, whole; the lists that are left as they are till the end. -/
import Derived.Test.YtimebochhbfkgaaJkSh
namespace Go.Proofs.Ytimebochhbfkgaa
open Go Go.Fw Go.RowKit
set_option linter.unusedVariables false
set_option linter.unusedSimpArgs false
set_option maxRecDepth 4000
set_option maxHeartbeats 2000000
variable {w0 w : World} {F G : Grps} {s : Sh}

theorem has_upd {G : Grps} {k i : Nat} {e : Ent} (e' : Ent) (h : Has G k i e) : Has (updG G k i [e']) k i e' := by
  induction G generalizing k with
  | nil => obtain ⟨g, h, _⟩ := h; cases h
  | cons g r ih =>
    cases k with
    | zero =>
      obtain ⟨g', h1, h2⟩ := h
      simp [nthO] at h1; subst h1
      refine ⟨setO g i e', rfl, ?_⟩
      have hi : i < g.length := by
        rw [nthO_get] at h2
        exact (List.getElem?_eq_some_iff.1 h2).1
      rw [nthO_get, setO_set]; simp [hi]
    | succ k =>
      obtain ⟨g', h1, h2⟩ := h
      obtain ⟨g'', h3, h4⟩ := ih ⟨g', h1, h2⟩
      exact ⟨g'', h3, h4⟩
theorem upd_upd (G : Grps) (k i : Nat) (a b : Ent) : updG (updG G k i [a]) k i [b] = updG G k i [b] := by
  induction G generalizing k with
  | nil => cases k <;> rfl
  | cons g r ih =>
    cases k with
    | zero => simp only [updG, setO_set, List.set_set]
    | succ k => simp only [updG, ih]
theorem fill_st {G : Grps} {k i : Nat} {l : Sl} {c : List UInt8} (h : St w0 w G) (he : Has G k i (.row 5 1 l (bys c))) {m : Nat} (hm : m ≤ 1000000000) (hc : c.length ≤ 1000000000) :
    CallK Try.prog (.tup .nilT) 64 #[.slice l.a l.len l.cap, .int .i64 (m : Int)] w fun (_ : Unit) w' => St w0 w' (updG G k i [.row 5 1 l (bys (List.replicate c.length (mkb m)))]) := by
  have hll := (h.rd he).bys_len
  refine T64.calls ?_
  unfold T64
  have h0 : St w0 w (updG G k i [.row 5 1 l (bys c)]) := h.change1 he (Upd.refl _ _) (h.ent he) fun j hj => .inl hj
  refine LoopX.mk (fun st w' => ∃ j : Nat, st.1 = (j : Int) ∧ j ≤ c.length ∧ St w0 w' (updG G k i [.row 5 1 l (bys (List.replicate j (mkb m) ++ c.drop j))])) (fun st => c.length - st.1.toNat) ⟨0, rfl, Nat.zero_le _, by simpa using h0⟩ ?_
  clear h h0
  rintro ⟨_, ⟨⟩⟩ w ⟨j, rfl, hj, h⟩ K hK
  dsimp only at h hK ⊢
  have he2 := has_upd (.row 5 1 l (bys (List.replicate j (mkb m) ++ c.drop j))) he
  rw [SplitB_iff]
  refine ⟨fun hz => ?_, fun hz => ?_⟩
  · have hz : j < c.length := by have := of_decide_eq_true hz; omega
    refine (h.rd he2).idxK j rfl (by omega) ?_
    intro b o hb
    rw [mkb_v hm]
    refine h.storR k i he2 hb (j * 1) rfl (by rw [Nat.mul_one, bys_length]; simp; omega) rfl ?_
    intro w h
    rw [upd_upd] at h
    have e : (bys (List.replicate j (mkb m) ++ c.drop j)).set (j * 1) (.int .u8 ((mkb m).toNat : Int)) = bys (List.replicate (j + 1) (mkb m) ++ c.drop (j + 1)) := by
      rw [Nat.mul_one, show Value.int .u8 ((mkb m).toNat : Int) = u8v (mkb m) from rfl, bys_set]
      congr 1
      rw [List.set_append, if_neg (by simp), List.length_replicate, Nat.sub_self, List.drop_eq_getElem_cons hz, List.set_cons_zero, List.replicate_succ', List.append_assoc]
      rfl
    rw [e] at h
    exact hK _ _ ⟨j + 1, by dsimp only; rw [wr (by omega)]; omega, hz, h⟩ (by dsimp only; rw [wr (by omega)]; omega)
  · have hz : j = c.length := by have := of_decide_eq_false hz; omega
    subst hz
    rw [List.drop_length, List.append_nil] at h
    exact h
theorem whole_now (h : St w0 w (shg s :: F)) (ok : ShOk s) (hL : s.L.length ≤ 1000000000) : CallK Try.prog .bool 52 #[.pointer (some ⟨s.b, 0, none⟩)] w fun (r : Bool) w' => r = true ∧ St w0 w' F := by
  refine T52.calls ?_
  unfold T52
  try (with_reducible refine NilP.mk ?_)
  refine h.loadB 0 0 ⟨_, rfl, rfl⟩ rfl rfl ?_
  rw [SplitB_iff]
  refine ⟨(fun hz => by cases hz), fun _ => ?_⟩
  refine LoopX.mk (fun st w' => ∃ i : Nat, st.1 = (i : Int) ∧ i ≤ s.L.length ∧ St w0 w' (shg s :: F)) (fun st => s.L.length - st.1.toNat) ⟨0, rfl, Nat.zero_le _, h⟩ ?_
  clear h
  rintro ⟨_, ⟨⟩⟩ w ⟨i, rfl, hi, h⟩ K hK
  dsimp only at h hK ⊢
  obtain ⟨hb, hm⟩ := shg_bs h (k := 0) rfl
  try (with_reducible refine NilP.mk ?_)
  refine h.loadB 0 0 ⟨_, rfl, rfl⟩ rfl rfl ?_
  rw [SplitB_iff]
  refine ⟨fun hz => ?_, fun _ => ⟨rfl, h.drop 0⟩⟩
  have hz : i < s.L.length := by
    have h1 : (i : Int) < (s.bs.len : Int) := of_decide_eq_true hz
    omega
  have hmem := List.getElem_mem hz
  have hxn := (ok _ hmem).2.1.2
  refine LoopX.mk (fun st w' => ∃ j : Nat, st.1 = (j : Int) ∧ j ≤ s.L[i].1.len ∧ St w0 w' (shg s :: F)) (fun st => s.L[i].1.len - st.1.toNat) ⟨0, rfl, Nat.zero_le _, h⟩ ?_
  clear h
  rintro ⟨_, ⟨⟩⟩ w ⟨j, rfl, hj, h⟩ K2 hK2
  dsimp only at h hK2 ⊢
  try (with_reducible refine NilP.mk ?_)
  refine h.loadB 0 0 ⟨_, rfl, rfl⟩ rfl rfl ?_
  refine (h.rd (k := 0) (i := 1) ⟨_, rfl, rfl⟩).idxK i rfl (by omega) ?_
  intro b1 o1 hb1
  refine (h.rd (k := 0) (i := 1) ⟨_, rfl, rfl⟩).el hb1 (i * 1) rfl (kd := .sl) (x := s.L[i].1) (ls2_at hz) ?_
  rw [SplitB_iff]
  refine ⟨fun hy => ?_, fun hy => ?_⟩
  · have hy : j < s.L[i].1.len := by
      have h1 : (j : Int) < (s.L[i].1.len : Int) := of_decide_eq_true hy
      omega
    have hd := h.drew
    try (with_reducible refine NilP.mk ?_)
    refine h.drew.readB 0 0 ⟨_, rfl, rfl⟩ rfl rfl ?_
    refine (hd.rd (k := 0) (i := 1) ⟨_, rfl, rfl⟩).idxR i rfl (by omega) ?_
    intro b2 o2 hb2
    refine (hd.rd (k := 0) (i := 1) ⟨_, rfl, rfl⟩).elR hb2 (i * 1) rfl (kd := .sl) (x := s.L[i].1) (ls2_at hz) ?_
    have hr := sh_rd hd (k := 0) rfl ok hmem
    refine hr.idxR j rfl hy ?_
    intro b3 o3 hb3
    refine hr.elR hb3 (j * 1) rfl (kd := .int .u8) (x := ((mkb s.L[i].2).toNat : Int)) (by rw [Nat.mul_one, bys_get (by simpa using hy), List.getElem_replicate]; rfl) ?_
    try (with_reducible refine NilP.mk ?_)
    refine h.drew.readB 0 0 ⟨_, rfl, rfl⟩ rfl rfl ?_
    refine (hd.rd (k := 0) (i := 2) ⟨_, rfl, rfl⟩).idxR i rfl (by omega) ?_
    intro b4 o4 hb4
    refine (hd.rd (k := 0) (i := 2) ⟨_, rfl, rfl⟩).elR hb4 (i * 1) rfl (kd := .int .i64) (x := (s.L[i].2 : Int)) (li2_at hz) ?_
    rw [mkb_v (ok _ hmem).2.1.1, SplitB_iff]
    refine ⟨(fun hx => by simp at hx), fun _ => ?_⟩
    exact hK2 _ _ ⟨j + 1, by dsimp only; rw [wr (by omega)]; omega, hy, hd⟩ (by dsimp only; rw [wr (by omega)]; omega)
  · exact hK _ _ ⟨i + 1, by dsimp only; rw [wr (by omega)]; omega, hz, h⟩ (by dsimp only; rw [wr (by omega)]; omega)

/-! ### both shelves -/
inductive Sv where
  | now (s : Sh)
  | late (b : Nat) (bs ws : Sl) (L M : List Bs)
def lg (b : Nat) (bs ws : Sl) (L M : List Bs) : List Ent := [.cel b 89 [.bool true, .slice bs.a bs.len bs.cap, .slice ws.a ws.len ws.cap, .slice none 0 0], .row 31 1 bs (lsl L), .row 31 1 ws (lsl M)]
def Sv.b : Sv → Nat
  | .now s => s.b
  | .late b _ _ _ _ => b
def Sv.n : Sv → Nat
  | .now s => s.L.length
  | .late _ _ _ L _ => 18 * L.length
def Sv.gs : Sv → Grps → Grps
  | .now s, F => shg s :: F
  | .late b bs ws L M, F => lg b bs ws L M :: L.map (brw 5) :: M.map (brw 5) :: F
def Sv.Ok : Sv → Prop
  | .now s => ShOk s
  | .late _ _ _ L M => L.map (·.2) = M.map (·.2) ∧ ∀ x ∈ L, x.2.length ≤ 8192
theorem Sv.out {v : Sv} {a : List Ent} (h : St w0 w (v.gs (a :: F))) : St w0 w (a :: v.gs F) := by
  cases v with
  | now s =>
    have h : St w0 w (shg s :: a :: F) := h
    have h := h.ord 2 [1, 0]
    dsimp only [pick, nthO, dropO] at h
    exact h
  | late b bs ws L M =>
    have h : St w0 w (lg b bs ws L M :: L.map (brw 5) :: M.map (brw 5) :: a :: F) := h
    have h := h.ord 4 [3, 0, 1, 2]
    dsimp only [pick, nthO, dropO] at h
    exact h
theorem Sv.inn {v : Sv} {a : List Ent} (h : St w0 w (a :: v.gs F)) : St w0 w (v.gs (a :: F)) := by
  cases v with
  | now s =>
    have h : St w0 w (a :: shg s :: F) := h
    have h := h.ord 2 [1, 0]
    dsimp only [pick, nthO, dropO] at h
    exact h
  | late b bs ws L M =>
    have h : St w0 w (a :: lg b bs ws L M :: L.map (brw 5) :: M.map (brw 5) :: F) := h
    have h := h.ord 4 [1, 2, 3, 0]
    dsimp only [pick, nthO, dropO] at h
    exact h
theorem shput_st {v : Sv} {l : Sl} {c : List UInt8} (h : St w0 w ([.row 5 1 l (bys c)] :: v.gs F)) (ok : v.Ok) (hc : c.length ≤ 8192) (hn : v.n ≤ 100000000) : CallK Try.prog (.tup .nilT) 59 #[.pointer (some ⟨v.b, 0, none⟩), .slice l.a l.len l.cap] w fun (_ : Unit) w' =>
    ∃ v' : Sv, v'.b = v.b ∧ v'.Ok ∧ v'.n ≤ v.n + 18 ∧ St w0 w' (v'.gs F) := by
  refine T59.calls ?_
  unfold T59
  have hlr := (h.rd (k := 0) (i := 0) ⟨_, rfl, rfl⟩).bys_len
  cases v with
  | now s =>
    have h : St w0 w ([.row 5 1 l (bys c)] :: shg s :: F) := h
    have ok : ShOk s := ok
    have hn : s.L.length ≤ 100000000 := hn
    obtain ⟨e1, e2⟩ := shg_bs h (k := 1) rfl
    try (with_reducible refine NilP.mk ?_)
    refine h.loadB 1 0 ⟨_, rfl, rfl⟩ rfl rfl ?_
    rw [SplitB_iff]
    refine ⟨(fun hz => by cases hz), fun _ => ?_⟩
    try (with_reducible refine NilP.mk ?_)
    refine h.loadB 1 0 ⟨_, rfl, rfl⟩ rfl rfl ?_
    have e2i : (s.ms.len : Int) = (s.L.length : Int) := by rw [e2]
    rw [e2i]
    refine (fill_st h (k := 0) (i := 0) ⟨_, rfl, rfl⟩ (m := s.L.length) (by omega) (by omega)).mono ?_
    rintro ⟨⟩ w h
    dsimp only [updG, setO] at h
    refine (hold_st h ok (by omega) (by omega) (by omega)).mono ?_
    rintro ⟨⟩ w ⟨s', hb, ok', hL', h⟩
    exact ⟨.now s', hb, ok', by show s'.L.length ≤ s.L.length + 18; omega, h⟩
  | late b bs ws L M =>
    have h : St w0 w ([.row 5 1 l (bys c)] :: lg b bs ws L M :: L.map (brw 5) :: M.map (brw 5) :: F) := h
    obtain ⟨ok1, ok2⟩ : L.map (·.2) = M.map (·.2) ∧ ∀ x ∈ L, x.2.length ≤ 8192 := ok
    have hn : 18 * L.length ≤ 100000000 := hn
    have hML : M.length = L.length := by have := congrArg List.length ok1; simpa using this.symm
    have e1 := (h.rd (k := 1) (i := 1) ⟨_, rfl, rfl⟩).1
    have e2 := (h.rd (k := 1) (i := 2) ⟨_, rfl, rfl⟩).1
    rw [lsl_len] at e1 e2
    try (with_reducible refine NilP.mk ?_)
    refine h.loadB 1 0 ⟨_, rfl, rfl⟩ rfl rfl ?_
    rw [SplitB_iff]
    refine ⟨fun _ => ?_, (fun hz => by cases hz)⟩
    try (with_reducible refine NilP.mk ?_)
    refine h.loadB 1 0 ⟨_, rfl, rfl⟩ rfl rfl ?_
    refine h.newS 1 (bs22 _ _ _ _) rfl rfl rfl ?_
    intro u w hul huc _ h
    refine h.app 2 1 ⟨_, rfl, rfl⟩ (h.rd (k := 0) (i := 0) ⟨_, rfl, rfl⟩) one_slice (by simp only [maxLen]; omega) (by omega) ?_
    intro bs2 w hbs2 h
    dsimp only [updG, setO, lg] at h
    have h := h.drop 0
    dsimp only [delO] at h
    try (with_reducible refine NilP.mk ?_)
    refine h.storB 1 0 ⟨_, rfl, rfl⟩ rfl rfl rfl ?_
    intro w h
    dsimp only [updG, setO] at h
    try (with_reducible refine NilP.mk ?_)
    refine h.drew.readB 1 0 ⟨_, rfl, rfl⟩ rfl rfl ?_
    refine h.drew.appNil (e := 5) (h.drew.rd (k := 0) (i := 0) ⟨_, rfl, rfl⟩) (bys_one _) (by simp only [maxLen]; omega) (by omega) ?_
    intro r w hr h
    refine ⟨h.stillB 2 0 ⟨_, rfl, rfl⟩ rfl rfl, ?_⟩
    refine h.newS 1 (bs22 _ _ _ _) rfl rfl rfl ?_
    intro u2 w hul2 huc2 _ h
    refine ⟨h.stillB 3 0 ⟨_, rfl, rfl⟩ rfl rfl, ?_⟩
    refine h.app 3 2 ⟨_, rfl, rfl⟩ (h.rd (k := 0) (i := 0) ⟨_, rfl, rfl⟩) one_slice (by simp only [maxLen]; omega) (by omega) ?_
    intro ws2 w hws2 h
    dsimp only [updG, setO] at h
    have h := h.ord 6 [1, 5, 2, 4, 3]
    dsimp only [pick, nthO, dropO] at h
    try (with_reducible refine NilP.mk ?_)
    refine h.storB 4 0 ⟨_, rfl, rfl⟩ rfl rfl rfl ?_
    intro w h
    dsimp only [updG, setO] at h
    have h := h.into
    have h := h.ord 4 [1, 2, 0, 3]
    dsimp only [pick, nthO, dropO] at h
    have h := h.into
    have h := h.ord 3 [2, 0, 1]
    dsimp only [pick, nthO, dropO] at h
    rw [← lsl_snoc L (l, c), ← lsl_snoc M (r, c)] at h
    refine ⟨.late b bs2 ws2 (L ++ [(l, c)]) (M ++ [(r, c)]), rfl, ⟨by rw [List.map_append, List.map_append, ok1]; rfl, fun x hx => ?_⟩, by show 18 * (L ++ [(l, c)]).length ≤ 18 * L.length + 18; simp; omega, ?_⟩
    · rcases List.mem_append.1 hx with hx | hx
      · exact ok2 x hx
      · simp at hx; subst hx; exact hc
    · show St w0 w (lg b bs2 ws2 (L ++ [(l, c)]) (M ++ [(r, c)]) :: (L ++ [(l, c)]).map (brw 5) :: (M ++ [(r, c)]).map (brw 5) :: F)
      rw [List.map_append, List.map_append]
      exact h
/-- The lists that were left as they are: they are so still; then all are written full, then all are grown. -/
theorem lately_st {b : Nat} {bs ws : Sl} {L M : List Bs} (h : St w0 w ((Sv.late b bs ws L M).gs F)) (ok : (Sv.late b bs ws L M).Ok) (hn : 18 * L.length ≤ 100000000) : CallK Try.prog .bool 61 #[.pointer (some ⟨b, 0, none⟩)] w fun (r : Bool) w' => r = true ∧ St w0 w' F := by
  have h : St w0 w (lg b bs ws L M :: L.map (brw 5) :: M.map (brw 5) :: F) := h
  obtain ⟨ok1, ok2⟩ : L.map (·.2) = M.map (·.2) ∧ ∀ x ∈ L, x.2.length ≤ 8192 := ok
  have hML : M.length = L.length := by have := congrArg List.length ok1; simpa using this.symm
  have e1 := (h.rd (k := 0) (i := 1) ⟨_, rfl, rfl⟩).1
  have e2 := (h.rd (k := 0) (i := 2) ⟨_, rfl, rfl⟩).1
  rw [lsl_len] at e1 e2
  refine T61.calls ?_
  unfold T61
  refine LoopX.mk (fun st w' => ∃ i : Nat, st.1 = (i : Int) ∧ i ≤ L.length ∧ St w0 w' (lg b bs ws L M :: L.map (brw 5) :: M.map (brw 5) :: F)) (fun st => L.length - st.1.toNat) ⟨0, rfl, Nat.zero_le _, h⟩ ?_
  clear h
  rintro ⟨_, ⟨⟩⟩ w ⟨i, rfl, hi, h⟩ K hK
  dsimp only at h hK ⊢
  try (with_reducible refine NilP.mk ?_)
  refine h.loadB 0 0 ⟨_, rfl, rfl⟩ rfl rfl ?_
  rw [SplitB_iff]
  refine ⟨fun hz => ?_, fun _ => ?_⟩
  · have hz : i < L.length := by
      have h1 : (i : Int) < (bs.len : Int) := of_decide_eq_true hz
      omega
    have hd := h.drew
    try (with_reducible refine NilP.mk ?_)
    refine h.drew.readB 0 0 ⟨_, rfl, rfl⟩ rfl rfl ?_
    refine (hd.rd (k := 0) (i := 1) ⟨_, rfl, rfl⟩).idxR i rfl (by omega) ?_
    intro b2 o2 hb2
    refine (hd.rd (k := 0) (i := 1) ⟨_, rfl, rfl⟩).elR hb2 (i * 1) rfl (kd := .sl) (x := L[i].1) (by rw [Nat.mul_one, lsl_at hz]; rfl) ?_
    try (with_reducible refine NilP.mk ?_)
    refine h.drew.readB 0 0 ⟨_, rfl, rfl⟩ rfl rfl ?_
    refine (hd.rd (k := 0) (i := 2) ⟨_, rfl, rfl⟩).idxR i rfl (by omega) ?_
    intro b3 o3 hb3
    refine (hd.rd (k := 0) (i := 2) ⟨_, rfl, rfl⟩).elR hb3 (i * 1) rfl (kd := .sl) (x := (M[i]'(by omega)).1) (by rw [Nat.mul_one, lsl_at (by omega)]; rfl) ?_
    refine (same_ok (hd.rd (k := 1) (i := i) ⟨_, rfl, brw_at hz⟩) (hd.rd (k := 2) (i := i) ⟨_, rfl, brw_at (E := 5) (show i < M.length by omega)⟩)).mono ?_
    rintro r w' ⟨hw, rfl⟩
    have e : L[i].2 = (M[i]'(by omega)).2 := by
      have := congrArg (fun l => l[i]?) ok1
      simpa [hz, show i < M.length by omega] using this
    rw [hw, e, SplitB_iff]
    refine ⟨(fun hx => by simp at hx), fun _ => ?_⟩
    exact hK _ _ ⟨i + 1, by dsimp only; rw [wr (by omega)]; omega, hz, hd⟩ (by dsimp only; rw [wr (by omega)]; omega)
  refine h.newB run_boxA rfl ?_
  intro bt w h
  have h := h.nilrow 3 1
  have h := h.nilrow 31 1
  have h := St.one.2 h
  have h := h.ord 2 [1, 0]
  dsimp only [pick, nthO, dropO] at h
  have h := St.one.2 h
  have h := h.ord 4 [1, 2, 0]
  dsimp only [pick, nthO, dropO] at h
  have h : St w0 w (lg b bs ws L M :: L.map (brw 5) :: shg ⟨bt, ⟨none, 0, 0⟩, [], ⟨none, 0, 0⟩, []⟩ :: F) := h
  generalize hS0 : (⟨bt, ⟨none, 0, 0⟩, [], ⟨none, 0, 0⟩, []⟩ : Sh) = s0 at h
  have hs0 : s0.b = bt ∧ ShOk s0 ∧ s0.L.length = 0 := by
    rw [← hS0]; exact ⟨rfl, (fun x hx => by cases hx), rfl⟩
  clear hS0
  refine LoopX.mk (fun st w' => ∃ (i : Nat) (DL : List Bs), st.1 = (i : Int) ∧ i ≤ L.length ∧ DL.map (·.1) = L.map (·.1) ∧ (∀ y ∈ DL, y.2.length ≤ 8192) ∧ (∀ (k : Nat) (hk : k < DL.length), k < i → ∃ n, DL[k].2 = List.replicate n (mkb k)) ∧ St w0 w' (lg b bs ws L M :: DL.map (brw 5) :: shg s0 :: F)) (fun st => L.length - st.1.toNat)
    ⟨0, L, rfl, Nat.zero_le _, rfl, ok2, fun k hk h0 => by omega, h⟩ ?_
  clear h
  rintro ⟨_, ⟨⟩⟩ w ⟨i, DL, rfl, hi, hD1, hD2, hD3, h⟩ K hK
  dsimp only at h hK ⊢
  have hDl : DL.length = L.length := by have := congrArg List.length hD1; simpa using this
  have hDs : ∀ (i : Nat) (h : i < L.length), L[i].1 = (DL[i]'(by omega)).1 := fun i h => by
    have := congrArg (fun l => l[i]?) hD1
    simpa [h, show i < DL.length by omega] using this.symm
  try (with_reducible refine NilP.mk ?_)
  refine h.loadB 0 0 ⟨_, rfl, rfl⟩ rfl rfl ?_
  rw [SplitB_iff]
  refine ⟨fun hz => ?_, fun hz => ?_⟩
  · have hz : i < L.length := by
      have h1 : (i : Int) < (bs.len : Int) := of_decide_eq_true hz
      omega
    try (with_reducible refine NilP.mk ?_)
    refine h.loadB 0 0 ⟨_, rfl, rfl⟩ rfl rfl ?_
    refine (h.rd (k := 0) (i := 1) ⟨_, rfl, rfl⟩).idxK i rfl (by omega) ?_
    intro b2 o2 hb2
    refine (h.rd (k := 0) (i := 1) ⟨_, rfl, rfl⟩).el hb2 (i * 1) rfl (kd := .sl) (x := L[i].1) (by rw [Nat.mul_one, lsl_at hz]; rfl) ?_
    rw [hDs i hz]
    have hDi : i < DL.length := by omega
    have hle := hD2 _ (List.getElem_mem hDi)
    refine (fill_st h (k := 1) (i := i) ⟨_, rfl, brw_at hDi⟩ (m := i) (by omega) (by omega)).mono ?_
    rintro ⟨⟩ w h
    dsimp only [updG] at h
    have e := setO_brw 5 DL i (DL[i].1, List.replicate DL[i].2.length (mkb i))
    have h : St w0 w (lg b bs ws L M :: (DL.set i (DL[i].1, List.replicate DL[i].2.length (mkb i))).map (brw 5) :: shg s0 :: F) := by
      rw [← e]; exact h
    refine hK _ _ ⟨i + 1, _, by dsimp only; rw [wr (by omega)]; omega, hz, ?_, fun y hy => ?_, fun k hk hki => ?_, h⟩ (by dsimp only; rw [wr (by omega)]; omega)
    · rw [← hD1, List.map_set]
      dsimp only
      have : (DL.map (·.1)).set i DL[i].1 = DL.map (·.1) := by
        have h1 : DL[i].1 = (DL.map (·.1))[i]'(by simpa using hDi) := by simp
        rw [h1, List.set_getElem_self]
      exact this
    · rcases List.mem_or_eq_of_mem_set hy with hy | hy
      · exact hD2 y hy
      · subst hy; simpa using hle
    · rw [List.getElem_set]
      split
      · rename_i hik; subst hik; exact ⟨_, rfl⟩
      · exact hD3 k (by simpa using hk) (by omega)
  have hz : i = L.length := by
    have h1 : ¬ (i : Int) < (bs.len : Int) := of_decide_eq_false hz
    omega
  subst hz
  refine LoopX.mk (fun st w' => ∃ (i : Nat) (s' : Sh), st.1 = (i : Int) ∧ i ≤ L.length ∧ s'.b = bt ∧ ShOk s' ∧ s'.L.length = 18 * i ∧ St w0 w' (lg b bs ws L M :: (DL.drop i).map (brw 5) :: shg s' :: F)) (fun st => L.length - st.1.toNat)
    ⟨0, s0, rfl, Nat.zero_le _, hs0.1, hs0.2.1, hs0.2.2, h⟩ ?_
  clear h
  rintro ⟨_, ⟨⟩⟩ w ⟨i, s1, rfl, hi, hb1, hok1, hL1, h⟩ K hK
  dsimp only at h hK ⊢
  try (with_reducible refine NilP.mk ?_)
  refine h.loadB 0 0 ⟨_, rfl, rfl⟩ rfl rfl ?_
  rw [SplitB_iff]
  refine ⟨fun hz => ?_, fun hz => ?_⟩
  · have hz : i < L.length := by
      have h1 : (i : Int) < (bs.len : Int) := of_decide_eq_true hz
      omega
    try (with_reducible refine NilP.mk ?_)
    refine h.loadB 0 0 ⟨_, rfl, rfl⟩ rfl rfl ?_
    refine (h.rd (k := 0) (i := 1) ⟨_, rfl, rfl⟩).idxK i rfl (by omega) ?_
    intro b2 o2 hb2
    refine (h.rd (k := 0) (i := 1) ⟨_, rfl, rfl⟩).el hb2 (i * 1) rfl (kd := .sl) (x := L[i].1) (by rw [Nat.mul_one, lsl_at hz]; rfl) ?_
    rw [hDs i hz]
    have hDi : i < DL.length := by omega
    obtain ⟨n, hn2⟩ := hD3 i hDi hz
    have hle := hD2 _ (List.getElem_mem hDi)
    rw [hn2, List.length_replicate] at hle
    rw [List.drop_eq_getElem_cons hDi, List.map_cons] at h
    have h := h.ord 3 [1, 0, 2]
    dsimp only [pick, nthO, dropO] at h
    have h := St.one.1 h
    have h := h.ord 4 [0, 3, 1, 2]
    dsimp only [pick, nthO, dropO] at h
    have h : St w0 w ([.row 5 1 DL[i].1 (bys (List.replicate n (mkb i)))] :: shg s1 :: (DL.drop (i + 1)).map (brw 5) :: lg b bs ws L M :: F) := by
      rw [← hn2]; exact h
    rw [← hb1]
    refine (hold_st h hok1 (by omega) (by omega) (by omega)).mono ?_
    rintro ⟨⟩ w ⟨s2, hb2', hok2, hL2, h⟩
    have h := h.ord 3 [2, 1, 0]
    dsimp only [pick, nthO, dropO] at h
    exact hK _ _ ⟨i + 1, s2, by dsimp only; rw [wr (by omega)]; omega, hz, hb2'.trans hb1, hok2, by omega, h⟩ (by dsimp only; rw [wr (by omega)]; omega)
  · skip
    have h := h.ord 3 [2]
    dsimp only [pick, nthO, dropO] at h
    rw [← hb1]
    exact (whole_now h hok1 (by omega)).mono fun r w' h => h
/-- The shelf at the end: all is as it was left. -/
theorem shwhole_st {v : Sv} (h : St w0 w (v.gs F)) (ok : v.Ok) (hn : v.n ≤ 100000000) : CallK Try.prog .bool 52 #[.pointer (some ⟨v.b, 0, none⟩)] w fun (r : Bool) w' => r = true ∧ St w0 w' F := by
  cases v with
  | now s =>
    have hn : s.L.length ≤ 100000000 := hn
    exact whole_now h ok (by omega)
  | late b bs ws L M =>
    refine T52.calls ?_
    unfold T52
    have h : St w0 w (lg b bs ws L M :: L.map (brw 5) :: M.map (brw 5) :: F) := h
    try (with_reducible refine NilP.mk ?_)
    refine h.loadB 0 0 ⟨_, rfl, rfl⟩ rfl rfl ?_
    rw [SplitB_iff]
    refine ⟨fun _ => ?_, (fun hz => by cases hz)⟩
    exact (lately_st h ok hn).mono fun r w' h => h
end Go.Proofs.Ytimebochhbfkgaa
