/- The document's disk, in memory of one's own: what its methods come to. -/
import Derived.Test.YtpdaoahamgegoaaTDr
import Derived.Test.YtpdaoahamgegoaaDkE
namespace Go.Proofs.Ytpdaoahamgegoaa
open Go Go.Fw Go.RowKit
set_option linter.unusedVariables false
set_option linter.unusedSimpArgs false
set_option maxRecDepth 4000
set_option maxHeartbeats 2000000

instance : Sc Try.prog 83 := ⟨by kernel_rfl⟩
instance : Ag Try.prog 91 3 := ⟨by kernel_rfl⟩
instance : Et Try.prog 83 91 3 40 := ⟨ET.of (by kernel_rfl), by decide⟩
instance : NewC Try.prog 91 [.int .i64 0, .int .i64 0, .slice none 0 0] := ⟨fun w => by kernel_rfl⟩
theorem bs83 (w : World) (x y : Int) (s : Sl) : (Instr.buildSlice 83 1 #[(0, .agg #[.int .i64 x, .int .i64 y, .slice s.a s.len s.cap])]).run Try.prog w = .ok (.slice (some ⟨w.heap.size, 0, none⟩) 1 1) (w.alloc (.cells ⟨[.int .i64 x, .int .i64 y, .slice s.a s.len s.cap]⟩ 91)) := by kernel_rfl

structure Rw where
  sec : Nat
  n : Nat
  d : Sl
  m : List UInt8
def rwc (o : Rw) : List Value := [.int .i64 (o.sec : Int), .int .i64 (o.n : Int), .slice o.d.a o.d.len o.d.cap]
def rws (os : List Rw) : List Value := os.flatMap rwc
theorem rws_len (os : List Rw) : (rws os).length = os.length * 3 := by
  induction os with
  | nil => rfl
  | cons x r ih => simp only [rws, List.flatMap_cons, List.length_append, List.length_cons] at ih ⊢; rw [ih]; simp [rwc]; omega
theorem rws_drop (os : List Rw) (n : Nat) : (rws os).drop (n * 3) = rws (os.drop n) := by
  induction n generalizing os with
  | zero => simp
  | succ n ih =>
    cases os with
    | nil => simp [rws]
    | cons x r =>
      have e : (n + 1) * 3 = 3 + n * 3 := by omega
      rw [e, ← List.drop_drop]
      have : (rws (x :: r)).drop 3 = rws r := by simp [rws, rwc]
      rw [this, ih]; rfl
theorem rws_at (os : List Rw) (i : Nat) (h : i < os.length) : ((rws os).drop (i * 3)).take 3 = rwc os[i] := by
  have e : ∀ x r, rws (x :: r) = rwc x ++ rws r := fun x r => by simp [rws]
  rw [rws_drop, List.drop_eq_getElem_cons h, e, List.take_append_of_le_length (by simp [rwc]), List.take_of_length_le (by simp [rwc])]
theorem rws_get (os : List Rw) (i j : Nat) (h : i < os.length) (hj : j < 3) : (rws os)[i * 3 + j]? = (rwc os[i])[j]? := by
  rw [← rws_at os i h, List.getElem?_take, if_pos hj, List.getElem?_drop]
def rrow (o : Rw) : Ent := .row 5 1 o.d (bys o.m)
/-- The document's disk in memory; base: the sectors at first. -/
structure R where
  b : Nat
  N : Nat
  fs : Sl
  first : List UInt8
  base : List (List UInt8)
  ls : Sl
  log : List Rw
  on : Bool
  left : Int
  torn : Int
@[reducible] def R.p (r : R) : Option Addr := some ⟨r.b, 0, none⟩
def rcel (r : R) : List Value := [.int .i64 (r.N : Int), .slice r.fs.a r.fs.len r.fs.cap, .slice r.ls.a r.ls.len r.ls.cap, .bool r.on, .int .i64 r.left, .int .i64 r.torn]
def rg (r : R) : List Ent := .cel r.b 85 (rcel r) :: .row 5 1 r.fs (bys r.first) :: .row 91 3 r.ls (rws r.log) :: r.log.map rrow
def lay (I : List (List UInt8)) (o : Rw) : List (List UInt8) := I.set o.sec (o.m.take o.n ++ (I.getD o.sec []).drop o.n)
def R.imk (r : R) (k : Nat) : List (List UInt8) := (r.log.take k).foldl lay r.base
def R.ims (r : R) : List (List UInt8) := r.log.foldl lay r.base
structure ROk (r : R) : Prop where
  N1 : 1 ≤ r.N ∧ r.N ≤ 65536
  base5 : ∀ x ∈ r.base, x.length = 512
  bl : r.base.length = r.N
  fst : r.first = [] ∧ r.base = zer r.N ∨ r.first = r.base.flatten ∧ 0 < r.first.length
  lg : ∀ o ∈ r.log, o.sec < r.N ∧ o.n ≤ 512 ∧ o.m.length = 512
  left : -1 ≤ r.left ∧ r.left ≤ 9223372036854775807
  torn : 0 ≤ r.torn ∧ r.torn ≤ 512
variable {w0 w : World} {F G : Grps} {r : R}
theorem lay_ok {I : List (List UInt8)} {n : Nat} (h5 : ∀ x ∈ I, x.length = 512) (hl : I.length = n) {o : Rw} (ho : o.sec < n ∧ o.n ≤ 512 ∧ o.m.length = 512) : (∀ x ∈ lay I o, x.length = 512) ∧ (lay I o).length = n := by
  refine ⟨fun x hx => ?_, by simp [lay, hl]⟩
  rcases List.mem_or_eq_of_mem_set hx with hx | hx
  · exact h5 x hx
  · subst hx
    have : (I.getD o.sec []).length = 512 := by
      rw [List.getD_eq_getElem?_getD, List.getElem?_eq_getElem (by omega), Option.getD_some]
      exact h5 _ (List.getElem_mem _)
    rw [List.length_append, List.length_take, List.length_drop, this]; omega
theorem imk_ok (ok : ROk r) {k : Nat} (hk : k ≤ r.log.length) : (∀ x ∈ r.imk k, x.length = 512) ∧ (r.imk k).length = r.N := by
  induction k with
  | zero => exact ⟨by simpa [R.imk] using ok.base5, by simpa [R.imk] using ok.bl⟩
  | succ k ih =>
    obtain ⟨h1, h2⟩ := ih (by omega)
    have e : r.imk (k + 1) = lay (r.imk k) (r.log[k]'(by omega)) := by
      unfold R.imk
      rw [List.take_succ_eq_append_getElem (by omega), List.foldl_append]; rfl
    rw [e]
    exact lay_ok h1 h2 (ok.lg _ (List.getElem_mem _))
theorem imk_succ (r : R) {k : Nat} (hk : k < r.log.length) : r.imk (k + 1) = lay (r.imk k) r.log[k] := by
  unfold R.imk
  rw [List.take_succ_eq_append_getElem hk, List.foldl_append]; rfl
theorem imk_all (r : R) : r.imk r.log.length = r.ims := by unfold R.imk R.ims; rw [List.take_length]
theorem rg_log (h : St w0 w (rg r :: F)) : r.ls.len = r.log.length := by
  have := (h.rd (k := 0) (i := 2) ⟨_, rfl, rfl⟩).1
  rw [rws_len] at this; omega
theorem rg_first (h : St w0 w (rg r :: F)) : r.fs.len = r.first.length := (h.rd (k := 0) (i := 1) ⟨_, rfl, rfl⟩).bys_len
theorem rrow_has {k : Nat} (hk : k < r.log.length) : Has (rg r :: F) 0 (k + 3) (.row 5 1 r.log[k].d (bys r.log[k].m)) := ⟨_, rfl, by
  show nthO (r.log.map rrow) k = _
  rw [nthO_map rrow _ hk]; rfl⟩

/-- A copy, byte by byte. -/
theorem copied_st (h : St w0 w F) {p : Sl} {l : List UInt8} (hp : SeesG w0 F p 1 (bys l)) (hl : l.length ≤ 1048576000) : CallK Try.prog .sl 46 #[.slice p.a p.len p.cap] w fun (q : Sl) w' => q.len = l.length ∧ St w0 w' ([.row 5 1 q (bys l)] :: F) := by
  have hpl := (hp _ h).bys_len
  refine T46.calls ?_
  unfold T46
  have h := h.nilrow 5 1
  refine LoopX.mk (fun st w' => ∃ k : Nat, k ≤ l.length ∧ st.2.1 = (k : Int) ∧ st.1.len = k ∧ St w0 w' ([.row 5 1 st.1 (bys (l.take k))] :: F)) (fun st => l.length - st.2.1.toNat) ⟨0, by omega, rfl, rfl, by simpa [bys] using h⟩ ?_
  clear h
  rintro ⟨d, _, ⟨⟩⟩ w ⟨k, hk, rfl, hd, h⟩ K hK
  dsimp only at h hK hd ⊢
  rw [SplitB_iff]
  refine ⟨fun hc => ?_, fun hc => ?_⟩
  · have hc : k < l.length := by have := of_decide_eq_true hc; omega
    have hr := hp _ (h.drop 0)
    refine hr.idxK k rfl (by omega) ?_
    intro b o hb
    refine hr.el hb (k * 1) rfl (kd := .int .u8) (x := (l[k].toNat : Int)) (by rw [Nat.mul_one]; exact bys_get hc) ?_
    refine h.newS 1 (bs30 _ _) rfl rfl rfl ?_
    intro u w hul hcp _ h
    refine h.app 1 0 ⟨_, rfl, rfl⟩ (h.rd (k := 0) (i := 0) ⟨_, rfl, rfl⟩) one_int (by simp only [maxLen]; omega) (by omega) ?_
    intro d' w hl' h
    dsimp only [updG, setO] at h
    refine hK _ _ ⟨k + 1, by omega, by dsimp only; rw [wr (by omega)]; omega, by dsimp only; omega, ?_⟩ (by dsimp only; rw [wr (by omega)]; omega)
    have e : bys (l.take k) ++ [Value.int .u8 (l[k].toNat : Int)] = bys (l.take (k + 1)) := by
      rw [List.take_succ_eq_append_getElem hc, bys_append]; rfl
    rw [e] at h
    exact h.drop 0
  · have hc : k = l.length := by have := of_decide_eq_false hc; omega
    rw [List.take_of_length_le (by omega)] at h
    exact ⟨by omega, h⟩
def rfresh (b : Nat) (n : Nat) : R := ⟨b, n, ⟨none, 0, 0⟩, [], zer n, ⟨none, 0, 0⟩, [], true, -1, 0⟩
theorem zer_5 (n : Nat) : ∀ x ∈ zer n, x.length = 512 := by
  intro x hx; rw [(List.mem_replicate.1 hx).2]; simp
theorem rfresh_ok (b : Nat) {n : Nat} (h1 : 1 ≤ n) (h2 : n ≤ 65536) : ROk (rfresh b n) :=
  ⟨⟨h1, h2⟩, zer_5 n, by simp [rfresh, zer], .inl ⟨rfl, rfl⟩, fun o ho => by simp [rfresh] at ho, ⟨by simp [rfresh], by simp [rfresh]⟩, ⟨by simp [rfresh], by simp [rfresh]⟩⟩
theorem rnew_st (h : St w0 w F) {n : Nat} (h1 : 1 ≤ n) (h2 : n ≤ 65536) : CallK Try.prog (.tup (.cons .ptr (.cons (.int .i64) .nilT))) 39 #[.int .i64 (n : Int)] w fun (q : Option Addr × Int × Unit) w' =>
    ∃ b, q = (some ⟨b, 0, none⟩, 0, ()) ∧ St w0 w' (rg (rfresh b n) :: F) := by
  refine T39.calls ?_
  unfold T39
  refine JoinX.mk (fun j w' => j.1 = false ∧ St w0 w' F) ?_ ?_
  · rintro ⟨_, ⟨⟩⟩ w ⟨hj, h⟩
    dsimp only at hj h ⊢
    subst hj
    rw [SplitB_iff]
    refine ⟨(fun hz => by cases hz), fun _ => ?_⟩
    have h := St.one.2 ((h.nilrow 91 3).nilrow 5 1)
    refine h.newB run_boxA (by rfl) ?_
    intro b w h
    have h := St.one.2 h
    exact ⟨b, rfl, h⟩
  · intro k hk
    rw [SplitB_iff]
    refine ⟨fun hz => ?_, fun hz => ?_⟩
    · have := of_decide_eq_true hz; omega
    · refine hk _ _ ⟨?_, h⟩
      dsimp only
      exact decide_eq_false (by omega)
theorem rnew_bad (h : St w0 w F) {n : Int} (h1 : ¬ (1 ≤ n ∧ n ≤ 65536)) : CallK Try.prog (.tup (.cons .ptr (.cons (.int .i64) .nilT))) 39 #[.int .i64 n] w fun (q : Option Addr × Int × Unit) w' =>
    q = (none, 1, ()) ∧ St w0 w' F := by
  refine T39.calls ?_
  unfold T39
  refine JoinX.mk (fun j w' => j.1 = true ∧ St w0 w' F) ?_ ?_
  · rintro ⟨_, ⟨⟩⟩ w ⟨hj, h⟩
    dsimp only at hj h ⊢
    subst hj
    rw [SplitB_iff]
    exact ⟨fun _ => ⟨rfl, h⟩, (fun hz => by cases hz)⟩
  · intro k hk
    rw [SplitB_iff]
    refine ⟨fun hz => hk _ _ ⟨rfl, h⟩, fun hz => ?_⟩
    have := of_decide_eq_false hz
    refine hk _ _ ⟨?_, h⟩
    dsimp only
    exact decide_eq_true (by omega)
theorem new_bad (h : St w0 w F) {n : Int} (h1 : ¬ (1 ≤ n ∧ n ≤ 65536)) : CallK Try.prog (.tup (.cons .ptr (.cons (.int .i64) .nilT))) 11 #[.int .i64 n] w fun (q : Option Addr × Int × Unit) w' =>
    q = (none, 1, ()) ∧ St w0 w' F := by
  refine T11.calls ?_
  unfold T11
  refine JoinX.mk (fun j w' => j.1 = true ∧ St w0 w' F) ?_ ?_
  · rintro ⟨_, ⟨⟩⟩ w ⟨hj, h⟩
    dsimp only at hj h ⊢
    subst hj
    rw [SplitB_iff]
    exact ⟨fun _ => ⟨rfl, h⟩, (fun hz => by cases hz)⟩
  · intro k hk
    rw [SplitB_iff]
    refine ⟨fun hz => hk _ _ ⟨rfl, h⟩, fun hz => ?_⟩
    have := of_decide_eq_false hz
    refine hk _ _ ⟨?_, h⟩
    dsimp only
    exact decide_eq_true (by omega)
theorem roff_st (h : St w0 w (rg r :: F)) : CallK Try.prog (.tup .nilT) 50 #[.pointer r.p] w fun _ w' => St w0 w' (rg { r with on := false, left := -1 } :: F) := by
  refine T50.calls ?_
  unfold T50
  repeat (first | (with_reducible refine NilP.mk ?_) | ((with_reducible refine RunN.isLoad ?_); (first | refine h.loadB 0 0 ⟨_, rfl, rfl⟩ rfl rfl ?_ | refine h.drew.loadB 0 0 ⟨_, rfl, rfl⟩ rfl rfl ?_)) | ((with_reducible refine ReadN.isLoad ?_); (first | refine h.readB 0 0 ⟨_, rfl, rfl⟩ rfl rfl ?_ | refine h.drew.readB 0 0 ⟨_, rfl, rfl⟩ rfl rfl ?_)) | ((with_reducible refine StillV.isLoad ?_); (first | refine ⟨h.stillB 0 0 ⟨_, rfl, rfl⟩ rfl rfl, ?_⟩)) | ((with_reducible refine RunU.isStor ?_); (first | (refine h.storB 0 0 ⟨_, rfl, rfl⟩ rfl rfl rfl ?_; intro w h; dsimp only [updG, setO] at h) | (refine h.drew.storB 0 0 ⟨_, rfl, rfl⟩ rfl rfl rfl ?_; intro w h; dsimp only [updG, setO] at h))) | ((with_reducible refine RunN.isBox ?_); (first | (refine h.newB run_boxA rfl ?_; intro bn w h; try dsimp only at h) | (refine h.drew.newB run_boxA rfl ?_; intro bn w h; try dsimp only at h))) | ((with_reducible refine RunN.isNew ?_); (first | (refine h.newB (NewC.run _) rfl ?_; intro bn w h) | (refine h.drew.newB (NewC.run _) rfl ?_; intro bn w h))))
  exact h
theorem ron_st (h : St w0 w (rg r :: F)) : CallK Try.prog (.tup .nilT) 51 #[.pointer r.p] w fun _ w' => St w0 w' (rg { r with on := true } :: F) := by
  refine T51.calls ?_
  unfold T51
  repeat (first | (with_reducible refine NilP.mk ?_) | ((with_reducible refine RunN.isLoad ?_); (first | refine h.loadB 0 0 ⟨_, rfl, rfl⟩ rfl rfl ?_ | refine h.drew.loadB 0 0 ⟨_, rfl, rfl⟩ rfl rfl ?_)) | ((with_reducible refine ReadN.isLoad ?_); (first | refine h.readB 0 0 ⟨_, rfl, rfl⟩ rfl rfl ?_ | refine h.drew.readB 0 0 ⟨_, rfl, rfl⟩ rfl rfl ?_)) | ((with_reducible refine StillV.isLoad ?_); (first | refine ⟨h.stillB 0 0 ⟨_, rfl, rfl⟩ rfl rfl, ?_⟩)) | ((with_reducible refine RunU.isStor ?_); (first | (refine h.storB 0 0 ⟨_, rfl, rfl⟩ rfl rfl rfl ?_; intro w h; dsimp only [updG, setO] at h) | (refine h.drew.storB 0 0 ⟨_, rfl, rfl⟩ rfl rfl rfl ?_; intro w h; dsimp only [updG, setO] at h))) | ((with_reducible refine RunN.isBox ?_); (first | (refine h.newB run_boxA rfl ?_; intro bn w h; try dsimp only at h) | (refine h.drew.newB run_boxA rfl ?_; intro bn w h; try dsimp only at h))) | ((with_reducible refine RunN.isNew ?_); (first | (refine h.newB (NewC.run _) rfl ?_; intro bn w h) | (refine h.drew.newB (NewC.run _) rfl ?_; intro bn w h))))
  exact h
theorem rwrites_st (h : St w0 w (rg r :: F)) : CallK Try.prog (.int .i64) 54 #[.pointer r.p] w fun (x : Int) w' => x = (r.log.length : Int) ∧ St w0 w' (rg r :: F) := by
  have hl := rg_log h
  refine T54.calls ?_
  unfold T54
  repeat (first | (with_reducible refine NilP.mk ?_) | ((with_reducible refine RunN.isLoad ?_); (first | refine h.loadB 0 0 ⟨_, rfl, rfl⟩ rfl rfl ?_ | refine h.drew.loadB 0 0 ⟨_, rfl, rfl⟩ rfl rfl ?_)) | ((with_reducible refine ReadN.isLoad ?_); (first | refine h.readB 0 0 ⟨_, rfl, rfl⟩ rfl rfl ?_ | refine h.drew.readB 0 0 ⟨_, rfl, rfl⟩ rfl rfl ?_)) | ((with_reducible refine StillV.isLoad ?_); (first | refine ⟨h.stillB 0 0 ⟨_, rfl, rfl⟩ rfl rfl, ?_⟩)) | ((with_reducible refine RunU.isStor ?_); (first | (refine h.storB 0 0 ⟨_, rfl, rfl⟩ rfl rfl rfl ?_; intro w h; dsimp only [updG, setO] at h) | (refine h.drew.storB 0 0 ⟨_, rfl, rfl⟩ rfl rfl rfl ?_; intro w h; dsimp only [updG, setO] at h))) | ((with_reducible refine RunN.isBox ?_); (first | (refine h.newB run_boxA rfl ?_; intro bn w h; try dsimp only at h) | (refine h.drew.newB run_boxA rfl ?_; intro bn w h; try dsimp only at h))) | ((with_reducible refine RunN.isNew ?_); (first | (refine h.newB (NewC.run _) rfl ?_; intro bn w h) | (refine h.drew.newB (NewC.run _) rfl ?_; intro bn w h))))
  exact ⟨by rw [hl], h⟩
theorem rarm_st (h : St w0 w (rg r :: F)) (k j : Int) : CallK Try.prog (.tup .nilT) 49 #[.pointer r.p, .int .i64 k, .int .i64 j] w fun _ w' => St w0 w' (rg (if r.on then { r with left := max k (-1), torn := min (max j 0) 512 } else r) :: F) := by
  refine T49.calls ?_
  unfold T49
  repeat (first | (with_reducible refine NilP.mk ?_) | ((with_reducible refine RunN.isLoad ?_); (first | refine h.loadB 0 0 ⟨_, rfl, rfl⟩ rfl rfl ?_ | refine h.drew.loadB 0 0 ⟨_, rfl, rfl⟩ rfl rfl ?_)) | ((with_reducible refine ReadN.isLoad ?_); (first | refine h.readB 0 0 ⟨_, rfl, rfl⟩ rfl rfl ?_ | refine h.drew.readB 0 0 ⟨_, rfl, rfl⟩ rfl rfl ?_)) | ((with_reducible refine StillV.isLoad ?_); (first | refine ⟨h.stillB 0 0 ⟨_, rfl, rfl⟩ rfl rfl, ?_⟩)) | ((with_reducible refine RunU.isStor ?_); (first | (refine h.storB 0 0 ⟨_, rfl, rfl⟩ rfl rfl rfl ?_; intro w h; dsimp only [updG, setO] at h) | (refine h.drew.storB 0 0 ⟨_, rfl, rfl⟩ rfl rfl rfl ?_; intro w h; dsimp only [updG, setO] at h))) | ((with_reducible refine RunN.isBox ?_); (first | (refine h.newB run_boxA rfl ?_; intro bn w h; try dsimp only at h) | (refine h.drew.newB run_boxA rfl ?_; intro bn w h; try dsimp only at h))) | ((with_reducible refine RunN.isNew ?_); (first | (refine h.newB (NewC.run _) rfl ?_; intro bn w h) | (refine h.drew.newB (NewC.run _) rfl ?_; intro bn w h))))
  rw [SplitB_iff]
  refine ⟨fun hz => ?_, fun hz => ?_⟩
  · have hz : r.on = false := by simpa using hz
    rw [hz]; exact h
  · have hz : r.on = true := by simpa using hz
    refine RunN.of (kd := .int .i64) (max_i _ _ _) ?_
    repeat (first | (with_reducible refine NilP.mk ?_) | ((with_reducible refine RunN.isLoad ?_); (first | refine h.loadB 0 0 ⟨_, rfl, rfl⟩ rfl rfl ?_ | refine h.drew.loadB 0 0 ⟨_, rfl, rfl⟩ rfl rfl ?_)) | ((with_reducible refine ReadN.isLoad ?_); (first | refine h.readB 0 0 ⟨_, rfl, rfl⟩ rfl rfl ?_ | refine h.drew.readB 0 0 ⟨_, rfl, rfl⟩ rfl rfl ?_)) | ((with_reducible refine StillV.isLoad ?_); (first | refine ⟨h.stillB 0 0 ⟨_, rfl, rfl⟩ rfl rfl, ?_⟩)) | ((with_reducible refine RunU.isStor ?_); (first | (refine h.storB 0 0 ⟨_, rfl, rfl⟩ rfl rfl rfl ?_; intro w h; dsimp only [updG, setO] at h) | (refine h.drew.storB 0 0 ⟨_, rfl, rfl⟩ rfl rfl rfl ?_; intro w h; dsimp only [updG, setO] at h))) | ((with_reducible refine RunN.isBox ?_); (first | (refine h.newB run_boxA rfl ?_; intro bn w h; try dsimp only at h) | (refine h.drew.newB run_boxA rfl ?_; intro bn w h; try dsimp only at h))) | ((with_reducible refine RunN.isNew ?_); (first | (refine h.newB (NewC.run _) rfl ?_; intro bn w h) | (refine h.drew.newB (NewC.run _) rfl ?_; intro bn w h))))
    refine RunN.of (kd := .int .i64) (max_i _ _ _) ?_
    refine RunN.of (kd := .int .i64) (min_i _ _ _) ?_
    repeat (first | (with_reducible refine NilP.mk ?_) | ((with_reducible refine RunN.isLoad ?_); (first | refine h.loadB 0 0 ⟨_, rfl, rfl⟩ rfl rfl ?_ | refine h.drew.loadB 0 0 ⟨_, rfl, rfl⟩ rfl rfl ?_)) | ((with_reducible refine ReadN.isLoad ?_); (first | refine h.readB 0 0 ⟨_, rfl, rfl⟩ rfl rfl ?_ | refine h.drew.readB 0 0 ⟨_, rfl, rfl⟩ rfl rfl ?_)) | ((with_reducible refine StillV.isLoad ?_); (first | refine ⟨h.stillB 0 0 ⟨_, rfl, rfl⟩ rfl rfl, ?_⟩)) | ((with_reducible refine RunU.isStor ?_); (first | (refine h.storB 0 0 ⟨_, rfl, rfl⟩ rfl rfl rfl ?_; intro w h; dsimp only [updG, setO] at h) | (refine h.drew.storB 0 0 ⟨_, rfl, rfl⟩ rfl rfl rfl ?_; intro w h; dsimp only [updG, setO] at h))) | ((with_reducible refine RunN.isBox ?_); (first | (refine h.newB run_boxA rfl ?_; intro bn w h; try dsimp only at h) | (refine h.drew.newB run_boxA rfl ?_; intro bn w h; try dsimp only at h))) | ((with_reducible refine RunN.isNew ?_); (first | (refine h.newB (NewC.run _) rfl ?_; intro bn w h) | (refine h.drew.newB (NewC.run _) rfl ?_; intro bn w h))))
    show St w0 _ (rg (if r.on = true then _ else _) :: F)
    rw [if_pos hz]
    exact h
/-- The log grows by one. -/
def R.add (r : R) (ls : Sl) (o : Rw) : R := { r with ls := ls, log := r.log ++ [o] }
theorem radd {d : Sl} {m : List UInt8} {ls : Sl} {sec n : Nat} (h : St w0 w ([.row 5 1 d (bys m)] :: (.cel r.b 85 (rcel { r with ls := ls }) :: .row 5 1 r.fs (bys r.first) :: .row 91 3 ls (rws r.log ++ rwc ⟨sec, n, d, m⟩) :: r.log.map rrow) :: F)) : St w0 w (rg (r.add ls ⟨sec, n, d, m⟩) :: F) := by
  have h := h.into
  have e : rg (r.add ls ⟨sec, n, d, m⟩) = (.cel r.b 85 (rcel { r with ls := ls }) :: .row 5 1 r.fs (bys r.first) :: .row 91 3 ls (rws r.log ++ rwc ⟨sec, n, d, m⟩) :: r.log.map rrow) ++ [.row 5 1 d (bys m)] := by
    simp [rg, R.add, rws, rrow, rcel]
  rw [e]; exact h
def R.reach (r : R) (n : Int) : Int := if !r.on then 200 else if 0 ≤ n ∧ n < r.N then 0 else 201
def R.left1 (r : R) : Int := if r.left > 0 then r.left - 1 else r.left
theorem rwrite_st (h : St w0 w (rg r :: F)) (ok : ROk r) (hlen : r.log.length ≤ 1048576) {p : Sl} {c : List UInt8} (hp : SeesG w0 F p 1 (bys c)) (hcl : c.length ≤ 1048576000) (n : Int) :
    CallK Try.prog (.int .i64) 48 #[.pointer r.p, .int .i64 n, .slice p.a p.len p.cap] w fun (x : Int) w' => ∃ r', r'.b = r.b ∧
      (r.reach n ≠ 0 ∧ x = r.reach n ∧ r' = r ∨ r.reach n = 0 ∧ c.length ≠ 512 ∧ x = 1 ∧ r' = r ∨
       r.reach n = 0 ∧ c.length = 512 ∧ r.left = 0 ∧ x = 200 ∧ (∃ ls d, r' = { r.add ls ⟨n.toNat, r.torn.toNat, d, c⟩ with on := false, left := -1 }) ∨
       r.reach n = 0 ∧ c.length = 512 ∧ r.left ≠ 0 ∧ x = 0 ∧ (∃ ls d, r' = { r.add ls ⟨n.toNat, 512, d, c⟩ with left := r.left1 })) ∧ St w0 w' (rg r' :: F) := by
  have hll := rg_log h
  have hleft := ok.left
  have htorn := ok.torn
  refine T48.calls ?_
  unfold T48
  repeat (first | (with_reducible refine NilP.mk ?_) | ((with_reducible refine RunN.isLoad ?_); (first | refine h.loadB 0 0 ⟨_, rfl, rfl⟩ rfl rfl ?_ | refine h.drew.loadB 0 0 ⟨_, rfl, rfl⟩ rfl rfl ?_)) | ((with_reducible refine ReadN.isLoad ?_); (first | refine h.readB 0 0 ⟨_, rfl, rfl⟩ rfl rfl ?_ | refine h.drew.readB 0 0 ⟨_, rfl, rfl⟩ rfl rfl ?_)) | ((with_reducible refine StillV.isLoad ?_); (first | refine ⟨h.stillB 0 0 ⟨_, rfl, rfl⟩ rfl rfl, ?_⟩)) | ((with_reducible refine RunU.isStor ?_); (first | (refine h.storB 0 0 ⟨_, rfl, rfl⟩ rfl rfl rfl ?_; intro w h; dsimp only [updG, setO] at h) | (refine h.drew.storB 0 0 ⟨_, rfl, rfl⟩ rfl rfl rfl ?_; intro w h; dsimp only [updG, setO] at h))) | ((with_reducible refine RunN.isBox ?_); (first | (refine h.newB run_boxA rfl ?_; intro bn w h; try dsimp only at h) | (refine h.drew.newB run_boxA rfl ?_; intro bn w h; try dsimp only at h))) | ((with_reducible refine RunN.isNew ?_); (first | (refine h.newB (NewC.run _) rfl ?_; intro bn w h) | (refine h.drew.newB (NewC.run _) rfl ?_; intro bn w h))))
  rw [SplitB_iff]
  refine ⟨fun hz => ?_, fun hz => ?_⟩
  · have hz : r.on = false := by simpa using hz
    exact ⟨r, rfl, .inl ⟨by simp [R.reach, hz], by simp [R.reach, hz], rfl⟩, h⟩
  have hon : r.on = true := by simpa using hz
  refine JoinX.mk (fun j w' => j.1 = decide (¬ (0 ≤ n ∧ n < r.N)) ∧ St w0 w' (rg r :: F)) ?_ ?_
  rotate_left
  · intro k hk
    rw [SplitB_iff]
    refine ⟨fun hy => ?_, fun hy => ?_⟩
    · have hy := of_decide_eq_true hy
      exact hk _ _ ⟨(decide_eq_true (by omega)).symm, h⟩
    · have hy := of_decide_eq_false hy
      repeat (first | (with_reducible refine NilP.mk ?_) | ((with_reducible refine RunN.isLoad ?_); (first | refine h.loadB 0 0 ⟨_, rfl, rfl⟩ rfl rfl ?_ | refine h.drew.loadB 0 0 ⟨_, rfl, rfl⟩ rfl rfl ?_)) | ((with_reducible refine ReadN.isLoad ?_); (first | refine h.readB 0 0 ⟨_, rfl, rfl⟩ rfl rfl ?_ | refine h.drew.readB 0 0 ⟨_, rfl, rfl⟩ rfl rfl ?_)) | ((with_reducible refine StillV.isLoad ?_); (first | refine ⟨h.stillB 0 0 ⟨_, rfl, rfl⟩ rfl rfl, ?_⟩)) | ((with_reducible refine RunU.isStor ?_); (first | (refine h.storB 0 0 ⟨_, rfl, rfl⟩ rfl rfl rfl ?_; intro w h; dsimp only [updG, setO] at h) | (refine h.drew.storB 0 0 ⟨_, rfl, rfl⟩ rfl rfl rfl ?_; intro w h; dsimp only [updG, setO] at h))) | ((with_reducible refine RunN.isBox ?_); (first | (refine h.newB run_boxA rfl ?_; intro bn w h; try dsimp only at h) | (refine h.drew.newB run_boxA rfl ?_; intro bn w h; try dsimp only at h))) | ((with_reducible refine RunN.isNew ?_); (first | (refine h.newB (NewC.run _) rfl ?_; intro bn w h) | (refine h.drew.newB (NewC.run _) rfl ?_; intro bn w h))))
      refine hk _ _ ⟨?_, h⟩
      dsimp only
      exact decide_eq_decide.2 (by omega)
  clear h
  rintro ⟨_, ⟨⟩⟩ w ⟨hj, h⟩
  dsimp only at hj h ⊢
  subst hj
  rw [SplitB_iff]
  refine ⟨fun hy => ?_, fun hy => ?_⟩
  · have hy := of_decide_eq_true hy
    have e : r.reach n = 201 := by simp [R.reach, hon, hy]
    exact ⟨r, rfl, .inl ⟨by rw [e]; decide, e.symm, rfl⟩, h⟩
  have hy := of_decide_eq_false hy
  have hy : 0 ≤ n ∧ n < r.N := by simpa using hy
  have e0 : r.reach n = 0 := by simp [R.reach, hon, hy]
  have hpl := (hp _ (h.drop 0)).bys_len
  rw [SplitB_iff]
  refine ⟨fun hx => ?_, fun hx => ?_⟩
  · have hx : c.length ≠ 512 := by rw [hpl] at hx; intro e; rw [e] at hx; simp at hx
    exact ⟨r, rfl, .inr (.inl ⟨e0, hx, rfl, rfl⟩), h⟩
  have hx : c.length = 512 := by
    rw [hpl] at hx
    have : (c.length : Int) = 512 := by simpa using hx
    omega
  obtain ⟨m, rfl⟩ : ∃ m : Nat, n = (m : Int) := ⟨n.toNat, by omega⟩
  rw [Int.toNat_natCast]
  refine (copied_st h (p := p) (l := c) (fun w h => hp w (h.drop 0)) hcl).mono ?_
  rintro d w ⟨hdl, h⟩
  first | refine h.newB (NewC.run _) rfl ?_ | refine h.drew.newB (NewC.run _) rfl ?_
  intro t7 w h
  try dsimp only at h
  refine h.storA 0 0 ⟨_, rfl, rfl⟩ rfl (hk := ?_)
  intro w h
  dsimp only [updG, setO] at h
  simp only [List.take_zero, List.drop, List.nil_append, List.append_nil, Nat.zero_add] at h
  repeat (first | (with_reducible refine NilP.mk ?_) | ((with_reducible refine RunN.isLoad ?_); (first | refine h.loadB 0 0 ⟨_, rfl, rfl⟩ rfl rfl ?_ | refine h.loadB 1 0 ⟨_, rfl, rfl⟩ rfl rfl ?_ | refine h.loadB 2 0 ⟨_, rfl, rfl⟩ rfl rfl ?_ | refine h.drew.loadB 0 0 ⟨_, rfl, rfl⟩ rfl rfl ?_ | refine h.drew.loadB 1 0 ⟨_, rfl, rfl⟩ rfl rfl ?_ | refine h.drew.loadB 2 0 ⟨_, rfl, rfl⟩ rfl rfl ?_)) | ((with_reducible refine ReadN.isLoad ?_); (first | refine h.readB 0 0 ⟨_, rfl, rfl⟩ rfl rfl ?_ | refine h.readB 1 0 ⟨_, rfl, rfl⟩ rfl rfl ?_ | refine h.readB 2 0 ⟨_, rfl, rfl⟩ rfl rfl ?_ | refine h.drew.readB 0 0 ⟨_, rfl, rfl⟩ rfl rfl ?_ | refine h.drew.readB 1 0 ⟨_, rfl, rfl⟩ rfl rfl ?_ | refine h.drew.readB 2 0 ⟨_, rfl, rfl⟩ rfl rfl ?_)) | ((with_reducible refine StillV.isLoad ?_); (first | refine ⟨h.stillB 0 0 ⟨_, rfl, rfl⟩ rfl rfl, ?_⟩ | refine ⟨h.stillB 1 0 ⟨_, rfl, rfl⟩ rfl rfl, ?_⟩ | refine ⟨h.stillB 2 0 ⟨_, rfl, rfl⟩ rfl rfl, ?_⟩)) | ((with_reducible refine RunU.isStor ?_); (first | (refine h.storB 0 0 ⟨_, rfl, rfl⟩ rfl rfl rfl ?_; intro w h; dsimp only [updG, setO] at h) | (refine h.storB 1 0 ⟨_, rfl, rfl⟩ rfl rfl rfl ?_; intro w h; dsimp only [updG, setO] at h) | (refine h.storB 2 0 ⟨_, rfl, rfl⟩ rfl rfl rfl ?_; intro w h; dsimp only [updG, setO] at h) | (refine h.drew.storB 0 0 ⟨_, rfl, rfl⟩ rfl rfl rfl ?_; intro w h; dsimp only [updG, setO] at h) | (refine h.drew.storB 1 0 ⟨_, rfl, rfl⟩ rfl rfl rfl ?_; intro w h; dsimp only [updG, setO] at h) | (refine h.drew.storB 2 0 ⟨_, rfl, rfl⟩ rfl rfl rfl ?_; intro w h; dsimp only [updG, setO] at h))) | ((with_reducible refine RunN.isBox ?_); (first | (refine h.newB run_boxA rfl ?_; intro bn w h; try dsimp only at h) | (refine h.drew.newB run_boxA rfl ?_; intro bn w h; try dsimp only at h))) | ((with_reducible refine RunN.isNew ?_); (first | (refine h.newB (NewC.run _) rfl ?_; intro bn w h) | (refine h.drew.newB (NewC.run _) rfl ?_; intro bn w h))))
  rw [SplitB_iff]
  refine ⟨fun hl0 => ?_, fun hl0 => ?_⟩
  · have hl0 : r.left = 0 := by simpa using hl0
    repeat (first | (with_reducible refine NilP.mk ?_) | ((with_reducible refine RunN.isLoad ?_); (first | refine h.loadB 0 0 ⟨_, rfl, rfl⟩ rfl rfl ?_ | refine h.loadB 1 0 ⟨_, rfl, rfl⟩ rfl rfl ?_ | refine h.loadB 2 0 ⟨_, rfl, rfl⟩ rfl rfl ?_ | refine h.drew.loadB 0 0 ⟨_, rfl, rfl⟩ rfl rfl ?_ | refine h.drew.loadB 1 0 ⟨_, rfl, rfl⟩ rfl rfl ?_ | refine h.drew.loadB 2 0 ⟨_, rfl, rfl⟩ rfl rfl ?_)) | ((with_reducible refine ReadN.isLoad ?_); (first | refine h.readB 0 0 ⟨_, rfl, rfl⟩ rfl rfl ?_ | refine h.readB 1 0 ⟨_, rfl, rfl⟩ rfl rfl ?_ | refine h.readB 2 0 ⟨_, rfl, rfl⟩ rfl rfl ?_ | refine h.drew.readB 0 0 ⟨_, rfl, rfl⟩ rfl rfl ?_ | refine h.drew.readB 1 0 ⟨_, rfl, rfl⟩ rfl rfl ?_ | refine h.drew.readB 2 0 ⟨_, rfl, rfl⟩ rfl rfl ?_)) | ((with_reducible refine StillV.isLoad ?_); (first | refine ⟨h.stillB 0 0 ⟨_, rfl, rfl⟩ rfl rfl, ?_⟩ | refine ⟨h.stillB 1 0 ⟨_, rfl, rfl⟩ rfl rfl, ?_⟩ | refine ⟨h.stillB 2 0 ⟨_, rfl, rfl⟩ rfl rfl, ?_⟩)) | ((with_reducible refine RunU.isStor ?_); (first | (refine h.storB 0 0 ⟨_, rfl, rfl⟩ rfl rfl rfl ?_; intro w h; dsimp only [updG, setO] at h) | (refine h.storB 1 0 ⟨_, rfl, rfl⟩ rfl rfl rfl ?_; intro w h; dsimp only [updG, setO] at h) | (refine h.storB 2 0 ⟨_, rfl, rfl⟩ rfl rfl rfl ?_; intro w h; dsimp only [updG, setO] at h) | (refine h.drew.storB 0 0 ⟨_, rfl, rfl⟩ rfl rfl rfl ?_; intro w h; dsimp only [updG, setO] at h) | (refine h.drew.storB 1 0 ⟨_, rfl, rfl⟩ rfl rfl rfl ?_; intro w h; dsimp only [updG, setO] at h) | (refine h.drew.storB 2 0 ⟨_, rfl, rfl⟩ rfl rfl rfl ?_; intro w h; dsimp only [updG, setO] at h))) | ((with_reducible refine RunN.isBox ?_); (first | (refine h.newB run_boxA rfl ?_; intro bn w h; try dsimp only at h) | (refine h.drew.newB run_boxA rfl ?_; intro bn w h; try dsimp only at h))) | ((with_reducible refine RunN.isNew ?_); (first | (refine h.newB (NewC.run _) rfl ?_; intro bn w h) | (refine h.drew.newB (NewC.run _) rfl ?_; intro bn w h))))
    refine h.drew.readA 0 0 ⟨_, rfl, rfl⟩ rfl ((m : Int), r.torn, d, ()) (hk := ?_)
    have h := h.drew
    refine h.newS 3 (bs83 _ _ _ _) rfl rfl rfl ?_
    intro u w hul huc _ h
    refine ⟨h.stillB 3 0 ⟨_, rfl, rfl⟩ rfl rfl, ?_⟩
    refine h.app 3 2 ⟨_, rfl, rfl⟩ (h.rd (k := 0) (i := 0) ⟨_, rfl, rfl⟩) (by intro v hv; simp at hv; rcases hv with rfl | rfl | rfl <;> rfl) (by simp only [maxLen]; omega) (by omega) ?_
    intro ls w hls h
    dsimp only [updG, setO, rg] at h
    repeat (first | (with_reducible refine NilP.mk ?_) | ((with_reducible refine RunN.isLoad ?_); (first | refine h.loadB 0 0 ⟨_, rfl, rfl⟩ rfl rfl ?_ | refine h.loadB 1 0 ⟨_, rfl, rfl⟩ rfl rfl ?_ | refine h.loadB 2 0 ⟨_, rfl, rfl⟩ rfl rfl ?_ | refine h.loadB 3 0 ⟨_, rfl, rfl⟩ rfl rfl ?_ | refine h.drew.loadB 0 0 ⟨_, rfl, rfl⟩ rfl rfl ?_ | refine h.drew.loadB 1 0 ⟨_, rfl, rfl⟩ rfl rfl ?_ | refine h.drew.loadB 2 0 ⟨_, rfl, rfl⟩ rfl rfl ?_ | refine h.drew.loadB 3 0 ⟨_, rfl, rfl⟩ rfl rfl ?_)) | ((with_reducible refine ReadN.isLoad ?_); (first | refine h.readB 0 0 ⟨_, rfl, rfl⟩ rfl rfl ?_ | refine h.readB 1 0 ⟨_, rfl, rfl⟩ rfl rfl ?_ | refine h.readB 2 0 ⟨_, rfl, rfl⟩ rfl rfl ?_ | refine h.readB 3 0 ⟨_, rfl, rfl⟩ rfl rfl ?_ | refine h.drew.readB 0 0 ⟨_, rfl, rfl⟩ rfl rfl ?_ | refine h.drew.readB 1 0 ⟨_, rfl, rfl⟩ rfl rfl ?_ | refine h.drew.readB 2 0 ⟨_, rfl, rfl⟩ rfl rfl ?_ | refine h.drew.readB 3 0 ⟨_, rfl, rfl⟩ rfl rfl ?_)) | ((with_reducible refine StillV.isLoad ?_); (first | refine ⟨h.stillB 0 0 ⟨_, rfl, rfl⟩ rfl rfl, ?_⟩ | refine ⟨h.stillB 1 0 ⟨_, rfl, rfl⟩ rfl rfl, ?_⟩ | refine ⟨h.stillB 2 0 ⟨_, rfl, rfl⟩ rfl rfl, ?_⟩ | refine ⟨h.stillB 3 0 ⟨_, rfl, rfl⟩ rfl rfl, ?_⟩)) | ((with_reducible refine RunU.isStor ?_); (first | (refine h.storB 0 0 ⟨_, rfl, rfl⟩ rfl rfl rfl ?_; intro w h; dsimp only [updG, setO] at h) | (refine h.storB 1 0 ⟨_, rfl, rfl⟩ rfl rfl rfl ?_; intro w h; dsimp only [updG, setO] at h) | (refine h.storB 2 0 ⟨_, rfl, rfl⟩ rfl rfl rfl ?_; intro w h; dsimp only [updG, setO] at h) | (refine h.storB 3 0 ⟨_, rfl, rfl⟩ rfl rfl rfl ?_; intro w h; dsimp only [updG, setO] at h) | (refine h.drew.storB 0 0 ⟨_, rfl, rfl⟩ rfl rfl rfl ?_; intro w h; dsimp only [updG, setO] at h) | (refine h.drew.storB 1 0 ⟨_, rfl, rfl⟩ rfl rfl rfl ?_; intro w h; dsimp only [updG, setO] at h) | (refine h.drew.storB 2 0 ⟨_, rfl, rfl⟩ rfl rfl rfl ?_; intro w h; dsimp only [updG, setO] at h) | (refine h.drew.storB 3 0 ⟨_, rfl, rfl⟩ rfl rfl rfl ?_; intro w h; dsimp only [updG, setO] at h))) | ((with_reducible refine RunN.isBox ?_); (first | (refine h.newB run_boxA rfl ?_; intro bn w h; try dsimp only at h) | (refine h.drew.newB run_boxA rfl ?_; intro bn w h; try dsimp only at h))) | ((with_reducible refine RunN.isNew ?_); (first | (refine h.newB (NewC.run _) rfl ?_; intro bn w h) | (refine h.drew.newB (NewC.run _) rfl ?_; intro bn w h))))
    have h := (h.drop 0).drop 0
    dsimp only [delO] at h
    obtain ⟨t, ht⟩ : ∃ t : Nat, r.torn = (t : Int) := ⟨r.torn.toNat, by omega⟩
    have h := radd (r := r) (ls := ls) (sec := m) (n := t) (d := d) (m := c) (by rw [ht] at h; exact h)
    refine (roff_st (r := r.add ls ⟨m, t, d, c⟩) h).mono ?_
    rintro ⟨⟩ w h
    refine ⟨_, ?_, .inr (.inr (.inl ⟨e0, hx, hl0, rfl, ls, d, rfl⟩)), ?_⟩
    · rfl
    · have e : r.torn.toNat = t := by omega
      rw [e]; exact h
  · have hl0 : r.left ≠ 0 := by intro e; rw [e] at hl0; simp at hl0
    refine JoinX.mk (fun _ w' => St w0 w' ([.cel t7 91 [.int .i64 (m : Int), .int .i64 512, .slice d.a d.len d.cap]] :: [.row 5 1 d (bys c)] :: rg { r with left := r.left1 } :: F)) ?_ ?_
    · rintro ⟨⟩ w h
      repeat (first | (with_reducible refine NilP.mk ?_) | ((with_reducible refine RunN.isLoad ?_); (first | refine h.loadB 0 0 ⟨_, rfl, rfl⟩ rfl rfl ?_ | refine h.loadB 1 0 ⟨_, rfl, rfl⟩ rfl rfl ?_ | refine h.loadB 2 0 ⟨_, rfl, rfl⟩ rfl rfl ?_ | refine h.drew.loadB 0 0 ⟨_, rfl, rfl⟩ rfl rfl ?_ | refine h.drew.loadB 1 0 ⟨_, rfl, rfl⟩ rfl rfl ?_ | refine h.drew.loadB 2 0 ⟨_, rfl, rfl⟩ rfl rfl ?_)) | ((with_reducible refine ReadN.isLoad ?_); (first | refine h.readB 0 0 ⟨_, rfl, rfl⟩ rfl rfl ?_ | refine h.readB 1 0 ⟨_, rfl, rfl⟩ rfl rfl ?_ | refine h.readB 2 0 ⟨_, rfl, rfl⟩ rfl rfl ?_ | refine h.drew.readB 0 0 ⟨_, rfl, rfl⟩ rfl rfl ?_ | refine h.drew.readB 1 0 ⟨_, rfl, rfl⟩ rfl rfl ?_ | refine h.drew.readB 2 0 ⟨_, rfl, rfl⟩ rfl rfl ?_)) | ((with_reducible refine StillV.isLoad ?_); (first | refine ⟨h.stillB 0 0 ⟨_, rfl, rfl⟩ rfl rfl, ?_⟩ | refine ⟨h.stillB 1 0 ⟨_, rfl, rfl⟩ rfl rfl, ?_⟩ | refine ⟨h.stillB 2 0 ⟨_, rfl, rfl⟩ rfl rfl, ?_⟩)) | ((with_reducible refine RunU.isStor ?_); (first | (refine h.storB 0 0 ⟨_, rfl, rfl⟩ rfl rfl rfl ?_; intro w h; dsimp only [updG, setO] at h) | (refine h.storB 1 0 ⟨_, rfl, rfl⟩ rfl rfl rfl ?_; intro w h; dsimp only [updG, setO] at h) | (refine h.storB 2 0 ⟨_, rfl, rfl⟩ rfl rfl rfl ?_; intro w h; dsimp only [updG, setO] at h) | (refine h.drew.storB 0 0 ⟨_, rfl, rfl⟩ rfl rfl rfl ?_; intro w h; dsimp only [updG, setO] at h) | (refine h.drew.storB 1 0 ⟨_, rfl, rfl⟩ rfl rfl rfl ?_; intro w h; dsimp only [updG, setO] at h) | (refine h.drew.storB 2 0 ⟨_, rfl, rfl⟩ rfl rfl rfl ?_; intro w h; dsimp only [updG, setO] at h))) | ((with_reducible refine RunN.isBox ?_); (first | (refine h.newB run_boxA rfl ?_; intro bn w h; try dsimp only at h) | (refine h.drew.newB run_boxA rfl ?_; intro bn w h; try dsimp only at h))) | ((with_reducible refine RunN.isNew ?_); (first | (refine h.newB (NewC.run _) rfl ?_; intro bn w h) | (refine h.drew.newB (NewC.run _) rfl ?_; intro bn w h))))
      refine h.drew.readA 0 0 ⟨_, rfl, rfl⟩ rfl ((m : Int), 512, d, ()) (hk := ?_)
      have h := h.drew
      refine h.newS 3 (bs83 _ _ _ _) rfl rfl rfl ?_
      intro u w hul huc _ h
      refine ⟨h.stillB 3 0 ⟨_, rfl, rfl⟩ rfl rfl, ?_⟩
      refine h.app 3 2 ⟨_, rfl, rfl⟩ (h.rd (k := 0) (i := 0) ⟨_, rfl, rfl⟩) (by intro v hv; simp at hv; rcases hv with rfl | rfl | rfl <;> rfl) (by simp only [maxLen]; omega) (by dsimp only; omega) ?_
      intro ls w hls h
      dsimp only [updG, setO, rg] at h
      repeat (first | (with_reducible refine NilP.mk ?_) | ((with_reducible refine RunN.isLoad ?_); (first | refine h.loadB 0 0 ⟨_, rfl, rfl⟩ rfl rfl ?_ | refine h.loadB 1 0 ⟨_, rfl, rfl⟩ rfl rfl ?_ | refine h.loadB 2 0 ⟨_, rfl, rfl⟩ rfl rfl ?_ | refine h.loadB 3 0 ⟨_, rfl, rfl⟩ rfl rfl ?_ | refine h.drew.loadB 0 0 ⟨_, rfl, rfl⟩ rfl rfl ?_ | refine h.drew.loadB 1 0 ⟨_, rfl, rfl⟩ rfl rfl ?_ | refine h.drew.loadB 2 0 ⟨_, rfl, rfl⟩ rfl rfl ?_ | refine h.drew.loadB 3 0 ⟨_, rfl, rfl⟩ rfl rfl ?_)) | ((with_reducible refine ReadN.isLoad ?_); (first | refine h.readB 0 0 ⟨_, rfl, rfl⟩ rfl rfl ?_ | refine h.readB 1 0 ⟨_, rfl, rfl⟩ rfl rfl ?_ | refine h.readB 2 0 ⟨_, rfl, rfl⟩ rfl rfl ?_ | refine h.readB 3 0 ⟨_, rfl, rfl⟩ rfl rfl ?_ | refine h.drew.readB 0 0 ⟨_, rfl, rfl⟩ rfl rfl ?_ | refine h.drew.readB 1 0 ⟨_, rfl, rfl⟩ rfl rfl ?_ | refine h.drew.readB 2 0 ⟨_, rfl, rfl⟩ rfl rfl ?_ | refine h.drew.readB 3 0 ⟨_, rfl, rfl⟩ rfl rfl ?_)) | ((with_reducible refine StillV.isLoad ?_); (first | refine ⟨h.stillB 0 0 ⟨_, rfl, rfl⟩ rfl rfl, ?_⟩ | refine ⟨h.stillB 1 0 ⟨_, rfl, rfl⟩ rfl rfl, ?_⟩ | refine ⟨h.stillB 2 0 ⟨_, rfl, rfl⟩ rfl rfl, ?_⟩ | refine ⟨h.stillB 3 0 ⟨_, rfl, rfl⟩ rfl rfl, ?_⟩)) | ((with_reducible refine RunU.isStor ?_); (first | (refine h.storB 0 0 ⟨_, rfl, rfl⟩ rfl rfl rfl ?_; intro w h; dsimp only [updG, setO] at h) | (refine h.storB 1 0 ⟨_, rfl, rfl⟩ rfl rfl rfl ?_; intro w h; dsimp only [updG, setO] at h) | (refine h.storB 2 0 ⟨_, rfl, rfl⟩ rfl rfl rfl ?_; intro w h; dsimp only [updG, setO] at h) | (refine h.storB 3 0 ⟨_, rfl, rfl⟩ rfl rfl rfl ?_; intro w h; dsimp only [updG, setO] at h) | (refine h.drew.storB 0 0 ⟨_, rfl, rfl⟩ rfl rfl rfl ?_; intro w h; dsimp only [updG, setO] at h) | (refine h.drew.storB 1 0 ⟨_, rfl, rfl⟩ rfl rfl rfl ?_; intro w h; dsimp only [updG, setO] at h) | (refine h.drew.storB 2 0 ⟨_, rfl, rfl⟩ rfl rfl rfl ?_; intro w h; dsimp only [updG, setO] at h) | (refine h.drew.storB 3 0 ⟨_, rfl, rfl⟩ rfl rfl rfl ?_; intro w h; dsimp only [updG, setO] at h))) | ((with_reducible refine RunN.isBox ?_); (first | (refine h.newB run_boxA rfl ?_; intro bn w h; try dsimp only at h) | (refine h.drew.newB run_boxA rfl ?_; intro bn w h; try dsimp only at h))) | ((with_reducible refine RunN.isNew ?_); (first | (refine h.newB (NewC.run _) rfl ?_; intro bn w h) | (refine h.drew.newB (NewC.run _) rfl ?_; intro bn w h))))
      have h := (h.drop 0).drop 0
      dsimp only [delO] at h
      have h := radd (r := { r with left := r.left1 }) (ls := ls) (sec := m) (n := 512) (d := d) (m := c) h
      refine ⟨_, ?_, .inr (.inr (.inr ⟨e0, hx, hl0, rfl, ls, d, rfl⟩)), h⟩
      rfl
    · intro k3 hk3
      repeat (first | (with_reducible refine NilP.mk ?_) | ((with_reducible refine RunN.isLoad ?_); (first | refine h.loadB 0 0 ⟨_, rfl, rfl⟩ rfl rfl ?_ | refine h.loadB 1 0 ⟨_, rfl, rfl⟩ rfl rfl ?_ | refine h.loadB 2 0 ⟨_, rfl, rfl⟩ rfl rfl ?_ | refine h.drew.loadB 0 0 ⟨_, rfl, rfl⟩ rfl rfl ?_ | refine h.drew.loadB 1 0 ⟨_, rfl, rfl⟩ rfl rfl ?_ | refine h.drew.loadB 2 0 ⟨_, rfl, rfl⟩ rfl rfl ?_)) | ((with_reducible refine ReadN.isLoad ?_); (first | refine h.readB 0 0 ⟨_, rfl, rfl⟩ rfl rfl ?_ | refine h.readB 1 0 ⟨_, rfl, rfl⟩ rfl rfl ?_ | refine h.readB 2 0 ⟨_, rfl, rfl⟩ rfl rfl ?_ | refine h.drew.readB 0 0 ⟨_, rfl, rfl⟩ rfl rfl ?_ | refine h.drew.readB 1 0 ⟨_, rfl, rfl⟩ rfl rfl ?_ | refine h.drew.readB 2 0 ⟨_, rfl, rfl⟩ rfl rfl ?_)) | ((with_reducible refine StillV.isLoad ?_); (first | refine ⟨h.stillB 0 0 ⟨_, rfl, rfl⟩ rfl rfl, ?_⟩ | refine ⟨h.stillB 1 0 ⟨_, rfl, rfl⟩ rfl rfl, ?_⟩ | refine ⟨h.stillB 2 0 ⟨_, rfl, rfl⟩ rfl rfl, ?_⟩)) | ((with_reducible refine RunU.isStor ?_); (first | (refine h.storB 0 0 ⟨_, rfl, rfl⟩ rfl rfl rfl ?_; intro w h; dsimp only [updG, setO] at h) | (refine h.storB 1 0 ⟨_, rfl, rfl⟩ rfl rfl rfl ?_; intro w h; dsimp only [updG, setO] at h) | (refine h.storB 2 0 ⟨_, rfl, rfl⟩ rfl rfl rfl ?_; intro w h; dsimp only [updG, setO] at h) | (refine h.drew.storB 0 0 ⟨_, rfl, rfl⟩ rfl rfl rfl ?_; intro w h; dsimp only [updG, setO] at h) | (refine h.drew.storB 1 0 ⟨_, rfl, rfl⟩ rfl rfl rfl ?_; intro w h; dsimp only [updG, setO] at h) | (refine h.drew.storB 2 0 ⟨_, rfl, rfl⟩ rfl rfl rfl ?_; intro w h; dsimp only [updG, setO] at h))) | ((with_reducible refine RunN.isBox ?_); (first | (refine h.newB run_boxA rfl ?_; intro bn w h; try dsimp only at h) | (refine h.drew.newB run_boxA rfl ?_; intro bn w h; try dsimp only at h))) | ((with_reducible refine RunN.isNew ?_); (first | (refine h.newB (NewC.run _) rfl ?_; intro bn w h) | (refine h.drew.newB (NewC.run _) rfl ?_; intro bn w h))))
      rw [SplitB_iff]
      refine ⟨fun hp0 => ?_, fun hp0 => ?_⟩
      · have hp0 := of_decide_eq_true hp0
        repeat (first | (with_reducible refine NilP.mk ?_) | ((with_reducible refine RunN.isLoad ?_); (first | refine h.loadB 0 0 ⟨_, rfl, rfl⟩ rfl rfl ?_ | refine h.loadB 1 0 ⟨_, rfl, rfl⟩ rfl rfl ?_ | refine h.loadB 2 0 ⟨_, rfl, rfl⟩ rfl rfl ?_ | refine h.drew.loadB 0 0 ⟨_, rfl, rfl⟩ rfl rfl ?_ | refine h.drew.loadB 1 0 ⟨_, rfl, rfl⟩ rfl rfl ?_ | refine h.drew.loadB 2 0 ⟨_, rfl, rfl⟩ rfl rfl ?_)) | ((with_reducible refine ReadN.isLoad ?_); (first | refine h.readB 0 0 ⟨_, rfl, rfl⟩ rfl rfl ?_ | refine h.readB 1 0 ⟨_, rfl, rfl⟩ rfl rfl ?_ | refine h.readB 2 0 ⟨_, rfl, rfl⟩ rfl rfl ?_ | refine h.drew.readB 0 0 ⟨_, rfl, rfl⟩ rfl rfl ?_ | refine h.drew.readB 1 0 ⟨_, rfl, rfl⟩ rfl rfl ?_ | refine h.drew.readB 2 0 ⟨_, rfl, rfl⟩ rfl rfl ?_)) | ((with_reducible refine StillV.isLoad ?_); (first | refine ⟨h.stillB 0 0 ⟨_, rfl, rfl⟩ rfl rfl, ?_⟩ | refine ⟨h.stillB 1 0 ⟨_, rfl, rfl⟩ rfl rfl, ?_⟩ | refine ⟨h.stillB 2 0 ⟨_, rfl, rfl⟩ rfl rfl, ?_⟩)) | ((with_reducible refine RunU.isStor ?_); (first | (refine h.storB 0 0 ⟨_, rfl, rfl⟩ rfl rfl rfl ?_; intro w h; dsimp only [updG, setO] at h) | (refine h.storB 1 0 ⟨_, rfl, rfl⟩ rfl rfl rfl ?_; intro w h; dsimp only [updG, setO] at h) | (refine h.storB 2 0 ⟨_, rfl, rfl⟩ rfl rfl rfl ?_; intro w h; dsimp only [updG, setO] at h) | (refine h.drew.storB 0 0 ⟨_, rfl, rfl⟩ rfl rfl rfl ?_; intro w h; dsimp only [updG, setO] at h) | (refine h.drew.storB 1 0 ⟨_, rfl, rfl⟩ rfl rfl rfl ?_; intro w h; dsimp only [updG, setO] at h) | (refine h.drew.storB 2 0 ⟨_, rfl, rfl⟩ rfl rfl rfl ?_; intro w h; dsimp only [updG, setO] at h))) | ((with_reducible refine RunN.isBox ?_); (first | (refine h.newB run_boxA rfl ?_; intro bn w h; try dsimp only at h) | (refine h.drew.newB run_boxA rfl ?_; intro bn w h; try dsimp only at h))) | ((with_reducible refine RunN.isNew ?_); (first | (refine h.newB (NewC.run _) rfl ?_; intro bn w h) | (refine h.drew.newB (NewC.run _) rfl ?_; intro bn w h))))
        rw [wr (x := r.left - 1) (by omega)] at h
        refine hk3 _ _ ?_
        have e : r.left1 = r.left - 1 := by simp [R.left1, hp0]
        rw [e]; exact h
      · have hp0 := of_decide_eq_false hp0
        refine hk3 _ _ ?_
        have e : r.left1 = r.left := by simp [R.left1, hp0]
        rw [e]; exact h
end Go.Proofs.Ytpdaoahamgegoaa
