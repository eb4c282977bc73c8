/- Taking a letter out of the bag, looking at one, doubling one, moving one; a new bag. -/
import Derived.Test.YtmhjlngkdppgpaaNsB
import Derived.Test.YtmhjlngkdppgpaaFwT
namespace Go.Proofs.Ytmhjlngkdppgpaa
open Go Go.Fw Go.RowKit
set_option linter.unusedVariables false
set_option linter.unusedSimpArgs false
set_option maxRecDepth 4000
variable {w0 w : World} {F : Grps} {B : Nat} {cap : Int} {s : Sl} {xs : List (Ltr × Sl)} {ty : Nat}

theorem nthO_map {α β : Type} (f : α → β) (l : List α) {i : Nat} (hi : i < l.length) : nthO (l.map f) i = some (f l[i]) := by
  rw [nthO_get]; simp [hi]
theorem delO_map {α β : Type} (f : α → β) (l : List α) (i : Nat) : delO (l.map f) i = (l.eraseIdx i).map f := by
  induction l generalizing i with
  | nil => rfl
  | cons x r ih => cases i with
    | zero => rfl
    | succ i => simp [delO, ih]
theorem nil_row {w0 w : World} {F : Grps} {k i : Nat} {e : TypeId} {sz : Nat} {s : Sl} {vs : List Value} (h : St w0 w F) (he : Has F k i (.row e sz s vs)) (hs : 0 < s.len) (hsz : 0 < sz) : ∃ b o, s.a = some ⟨b, o, none⟩ ∧ s.len ≤ s.cap ∧ s.cap ≤ maxLen := by
  rcases (h.ow he).2 with rfl | ⟨g, o, cs, ha, hb, hg, h1, h2, _⟩
  · simp at hs
  · exact ⟨g, o, ha, h1, h2⟩
theorem letter_has {k : Nat} {G : Grps} (hk : nthO G k = some (bagG ty B cap s xs)) {i : Nat} (hi : i < xs.length) : Has G k (2 + i) (lrow xs[i]) :=
  ⟨_, hk, by rw [Nat.add_comm]; exact nthO_map lrow xs hi⟩

/-- A letter out of the bag. -/
theorem take_st (h : St w0 w (bagG 54 B cap s xs :: F)) (hlen : xs.length ≤ 65536) {i : Nat} (hi : i < xs.length) :
    CallK Try.prog KL 30 #[.pointer (some ⟨B, 0, none⟩), .int .i64 (i : Int)] w fun (r : Int × Int × Sl × Unit) w' =>
      r = (xs[i].1.f, xs[i].1.t, xs[i].2, ()) ∧ ∃ s', St w0 w' ([lrow xs[i]] :: bagG 54 B cap s' (xs.eraseIdx i) :: F) := by
  have hl := bag_len h
  obtain ⟨g, o, ha, hlc, hcm⟩ := nil_row h (k := 0) (i := 1) ⟨_, rfl, rfl⟩ (by omega) (by decide)
  refine T30.calls ?_
  unfold T30
  repeat (first | (with_reducible refine NilP.mk ?_) | ((with_reducible refine RunN.isLoad ?_); (first | refine h.loadB 0 0 ⟨_, rfl, rfl⟩ rfl rfl ?_ | refine h.loadB 1 0 ⟨_, rfl, rfl⟩ rfl rfl ?_ | refine h.drew.loadB 0 0 ⟨_, rfl, rfl⟩ rfl rfl ?_ | refine h.drew.loadB 1 0 ⟨_, rfl, rfl⟩ rfl rfl ?_)) | ((with_reducible refine ReadN.isLoad ?_); (first | refine h.readB 0 0 ⟨_, rfl, rfl⟩ rfl rfl ?_ | refine h.readB 1 0 ⟨_, rfl, rfl⟩ rfl rfl ?_ | refine h.drew.readB 0 0 ⟨_, rfl, rfl⟩ rfl rfl ?_ | refine h.drew.readB 1 0 ⟨_, rfl, rfl⟩ rfl rfl ?_)) | ((with_reducible refine StillV.isLoad ?_); (first | refine ⟨h.stillB 0 0 ⟨_, rfl, rfl⟩ rfl rfl, ?_⟩ | refine ⟨h.stillB 1 0 ⟨_, rfl, rfl⟩ rfl rfl, ?_⟩)) | ((with_reducible refine RunU.isStor ?_); (first | (refine h.storB 0 0 ⟨_, rfl, rfl⟩ rfl rfl rfl ?_; intro w h; dsimp only [updG, setO] at h) | (refine h.storB 1 0 ⟨_, rfl, rfl⟩ rfl rfl rfl ?_; intro w h; dsimp only [updG, setO] at h) | (refine h.drew.storB 0 0 ⟨_, rfl, rfl⟩ rfl rfl rfl ?_; intro w h; dsimp only [updG, setO] at h) | (refine h.drew.storB 1 0 ⟨_, rfl, rfl⟩ rfl rfl rfl ?_; intro w h; dsimp only [updG, setO] at h))) | ((with_reducible refine RunN.isBox ?_); (first | (refine h.newB run_boxA rfl ?_; intro bn w h; try dsimp only at h) | (refine h.drew.newB run_boxA rfl ?_; intro bn w h; try dsimp only at h))) | ((with_reducible refine RunN.isNew ?_); (first | (refine h.newB (NewC.run _) rfl ?_; intro bn w h) | (refine h.drew.newB (NewC.run _) rfl ?_; intro bn w h))))
  refine (h.rd (k := 1) (i := 1) ⟨_, rfl, rfl⟩).idxK i rfl (by omega) ?_
  intro b o hb
  rw [ha] at hb; cases hb
  refine (h.rd (k := 1) (i := 1) ⟨_, rfl, rfl⟩).elA ha (i * 3) rfl (xs[i].1.f, xs[i].1.t, xs[i].2, ()) (row_at _ _ hi) ?_
  repeat (first | (with_reducible refine NilP.mk ?_) | ((with_reducible refine RunN.isLoad ?_); (first | refine h.loadB 0 0 ⟨_, rfl, rfl⟩ rfl rfl ?_ | refine h.drew.loadB 0 0 ⟨_, rfl, rfl⟩ rfl rfl ?_)) | ((with_reducible refine ReadN.isLoad ?_); (first | refine h.readB 0 0 ⟨_, rfl, rfl⟩ rfl rfl ?_ | refine h.drew.readB 0 0 ⟨_, rfl, rfl⟩ rfl rfl ?_)) | ((with_reducible refine StillV.isLoad ?_); (first | refine ⟨h.stillB 0 0 ⟨_, rfl, rfl⟩ rfl rfl, ?_⟩)) | ((with_reducible refine RunU.isStor ?_); (first | (refine h.storB 0 0 ⟨_, rfl, rfl⟩ rfl rfl rfl ?_; intro w h; dsimp only [updG, setO] at h) | (refine h.drew.storB 0 0 ⟨_, rfl, rfl⟩ rfl rfl rfl ?_; intro w h; dsimp only [updG, setO] at h))) | ((with_reducible refine RunN.isBox ?_); (first | (refine h.newB run_boxA rfl ?_; intro bn w h; try dsimp only at h) | (refine h.drew.newB run_boxA rfl ?_; intro bn w h; try dsimp only at h))) | ((with_reducible refine RunN.isNew ?_); (first | (refine h.newB (NewC.run _) rfl ?_; intro bn w h) | (refine h.drew.newB (NewC.run _) rfl ?_; intro bn w h))))
  refine h.storA 0 0 ⟨_, rfl, rfl⟩ rfl (hk := ?_)
  intro w h
  dsimp only [updG, setO] at h
  simp only [List.take_zero, List.drop, List.nil_append, List.append_nil, Nat.zero_add] at h
  repeat (first | (with_reducible refine NilP.mk ?_) | ((with_reducible refine RunN.isLoad ?_); (first | refine h.loadB 0 0 ⟨_, rfl, rfl⟩ rfl rfl ?_ | refine h.loadB 1 0 ⟨_, rfl, rfl⟩ rfl rfl ?_ | refine h.loadB 2 0 ⟨_, rfl, rfl⟩ rfl rfl ?_ | refine h.drew.loadB 0 0 ⟨_, rfl, rfl⟩ rfl rfl ?_ | refine h.drew.loadB 1 0 ⟨_, rfl, rfl⟩ rfl rfl ?_ | refine h.drew.loadB 2 0 ⟨_, rfl, rfl⟩ rfl rfl ?_)) | ((with_reducible refine ReadN.isLoad ?_); (first | refine h.readB 0 0 ⟨_, rfl, rfl⟩ rfl rfl ?_ | refine h.readB 1 0 ⟨_, rfl, rfl⟩ rfl rfl ?_ | refine h.readB 2 0 ⟨_, rfl, rfl⟩ rfl rfl ?_ | refine h.drew.readB 0 0 ⟨_, rfl, rfl⟩ rfl rfl ?_ | refine h.drew.readB 1 0 ⟨_, rfl, rfl⟩ rfl rfl ?_ | refine h.drew.readB 2 0 ⟨_, rfl, rfl⟩ rfl rfl ?_)) | ((with_reducible refine StillV.isLoad ?_); (first | refine ⟨h.stillB 0 0 ⟨_, rfl, rfl⟩ rfl rfl, ?_⟩ | refine ⟨h.stillB 1 0 ⟨_, rfl, rfl⟩ rfl rfl, ?_⟩ | refine ⟨h.stillB 2 0 ⟨_, rfl, rfl⟩ rfl rfl, ?_⟩)) | ((with_reducible refine RunU.isStor ?_); (first | (refine h.storB 0 0 ⟨_, rfl, rfl⟩ rfl rfl rfl ?_; intro w h; dsimp only [updG, setO] at h) | (refine h.storB 1 0 ⟨_, rfl, rfl⟩ rfl rfl rfl ?_; intro w h; dsimp only [updG, setO] at h) | (refine h.storB 2 0 ⟨_, rfl, rfl⟩ rfl rfl rfl ?_; intro w h; dsimp only [updG, setO] at h) | (refine h.drew.storB 0 0 ⟨_, rfl, rfl⟩ rfl rfl rfl ?_; intro w h; dsimp only [updG, setO] at h) | (refine h.drew.storB 1 0 ⟨_, rfl, rfl⟩ rfl rfl rfl ?_; intro w h; dsimp only [updG, setO] at h) | (refine h.drew.storB 2 0 ⟨_, rfl, rfl⟩ rfl rfl rfl ?_; intro w h; dsimp only [updG, setO] at h))) | ((with_reducible refine RunN.isBox ?_); (first | (refine h.newB run_boxA rfl ?_; intro bn w h; try dsimp only at h) | (refine h.drew.newB run_boxA rfl ?_; intro bn w h; try dsimp only at h))) | ((with_reducible refine RunN.isNew ?_); (first | (refine h.newB (NewC.run _) rfl ?_; intro bn w h) | (refine h.drew.newB (NewC.run _) rfl ?_; intro bn w h))))
  refine ReadN.sL i rfl (by omega) ?_
  repeat (first | (with_reducible refine NilP.mk ?_) | ((with_reducible refine RunN.isLoad ?_); (first | refine h.loadB 0 0 ⟨_, rfl, rfl⟩ rfl rfl ?_ | refine h.loadB 1 0 ⟨_, rfl, rfl⟩ rfl rfl ?_ | refine h.loadB 2 0 ⟨_, rfl, rfl⟩ rfl rfl ?_ | refine h.drew.loadB 0 0 ⟨_, rfl, rfl⟩ rfl rfl ?_ | refine h.drew.loadB 1 0 ⟨_, rfl, rfl⟩ rfl rfl ?_ | refine h.drew.loadB 2 0 ⟨_, rfl, rfl⟩ rfl rfl ?_)) | ((with_reducible refine ReadN.isLoad ?_); (first | refine h.readB 0 0 ⟨_, rfl, rfl⟩ rfl rfl ?_ | refine h.readB 1 0 ⟨_, rfl, rfl⟩ rfl rfl ?_ | refine h.readB 2 0 ⟨_, rfl, rfl⟩ rfl rfl ?_ | refine h.drew.readB 0 0 ⟨_, rfl, rfl⟩ rfl rfl ?_ | refine h.drew.readB 1 0 ⟨_, rfl, rfl⟩ rfl rfl ?_ | refine h.drew.readB 2 0 ⟨_, rfl, rfl⟩ rfl rfl ?_)) | ((with_reducible refine StillV.isLoad ?_); (first | refine ⟨h.stillB 0 0 ⟨_, rfl, rfl⟩ rfl rfl, ?_⟩ | refine ⟨h.stillB 1 0 ⟨_, rfl, rfl⟩ rfl rfl, ?_⟩ | refine ⟨h.stillB 2 0 ⟨_, rfl, rfl⟩ rfl rfl, ?_⟩)) | ((with_reducible refine RunU.isStor ?_); (first | (refine h.storB 0 0 ⟨_, rfl, rfl⟩ rfl rfl rfl ?_; intro w h; dsimp only [updG, setO] at h) | (refine h.storB 1 0 ⟨_, rfl, rfl⟩ rfl rfl rfl ?_; intro w h; dsimp only [updG, setO] at h) | (refine h.storB 2 0 ⟨_, rfl, rfl⟩ rfl rfl rfl ?_; intro w h; dsimp only [updG, setO] at h) | (refine h.drew.storB 0 0 ⟨_, rfl, rfl⟩ rfl rfl rfl ?_; intro w h; dsimp only [updG, setO] at h) | (refine h.drew.storB 1 0 ⟨_, rfl, rfl⟩ rfl rfl rfl ?_; intro w h; dsimp only [updG, setO] at h) | (refine h.drew.storB 2 0 ⟨_, rfl, rfl⟩ rfl rfl rfl ?_; intro w h; dsimp only [updG, setO] at h))) | ((with_reducible refine RunN.isBox ?_); (first | (refine h.newB run_boxA rfl ?_; intro bn w h; try dsimp only at h) | (refine h.drew.newB run_boxA rfl ?_; intro bn w h; try dsimp only at h))) | ((with_reducible refine RunN.isNew ?_); (first | (refine h.newB (NewC.run _) rfl ?_; intro bn w h) | (refine h.drew.newB (NewC.run _) rfl ?_; intro bn w h))))
  refine ReadN.sL (i + 1) (by rw [wr (by omega)]; omega) (by omega) ?_
  have hrd := (h.drew.rd (k := 2) (i := 1) ⟨_, rfl, rfl⟩).suf (lo := i + 1) (by omega)
  rw [row_drop] at hrd
  refine h.drew.copy 2 1 ⟨_, rfl, rfl⟩ i (fun b o hb _ => subS_addr hb (by omega)) (by simp only [subS]; omega) hrd (row_one _) ?_
  intro w h
  dsimp only [updG, setO, bagG] at h
  have hmin : Nat.min (subS s (i + 1) s.len 3).len (subS s i s.len 3).len = s.len - (i + 1) := by
    simp only [subS]; exact Nat.min_eq_left (by omega)
  rw [hmin] at h ⊢
  have key : List.take (i * 3) (row xs) ++ List.take ((s.len - (i + 1)) * 3) (row (xs.drop (i + 1))) ++ List.drop ((i + (s.len - (i + 1))) * 3) (row xs) = row (xs.eraseIdx i ++ xs.drop (xs.length - 1)) := by
    rw [row_take, row_drop, List.take_of_length_le (l := row (xs.drop (i + 1))) (by rw [row_len, List.length_drop]; omega), ← row_append, ← row_append]
    congr 1
    rw [List.eraseIdx_eq_take_drop_succ, show i + (s.len - (i + 1)) = xs.length - 1 by omega]
  rw [key] at h
  have hel : (xs.eraseIdx i).length = xs.length - 1 := by rw [List.length_eraseIdx_of_lt hi]
  repeat (first | (with_reducible refine NilP.mk ?_) | ((with_reducible refine RunN.isLoad ?_); (first | refine h.loadB 0 0 ⟨_, rfl, rfl⟩ rfl rfl ?_ | refine h.loadB 1 0 ⟨_, rfl, rfl⟩ rfl rfl ?_ | refine h.loadB 2 0 ⟨_, rfl, rfl⟩ rfl rfl ?_ | refine h.drew.loadB 0 0 ⟨_, rfl, rfl⟩ rfl rfl ?_ | refine h.drew.loadB 1 0 ⟨_, rfl, rfl⟩ rfl rfl ?_ | refine h.drew.loadB 2 0 ⟨_, rfl, rfl⟩ rfl rfl ?_)) | ((with_reducible refine ReadN.isLoad ?_); (first | refine h.readB 0 0 ⟨_, rfl, rfl⟩ rfl rfl ?_ | refine h.readB 1 0 ⟨_, rfl, rfl⟩ rfl rfl ?_ | refine h.readB 2 0 ⟨_, rfl, rfl⟩ rfl rfl ?_ | refine h.drew.readB 0 0 ⟨_, rfl, rfl⟩ rfl rfl ?_ | refine h.drew.readB 1 0 ⟨_, rfl, rfl⟩ rfl rfl ?_ | refine h.drew.readB 2 0 ⟨_, rfl, rfl⟩ rfl rfl ?_)) | ((with_reducible refine StillV.isLoad ?_); (first | refine ⟨h.stillB 0 0 ⟨_, rfl, rfl⟩ rfl rfl, ?_⟩ | refine ⟨h.stillB 1 0 ⟨_, rfl, rfl⟩ rfl rfl, ?_⟩ | refine ⟨h.stillB 2 0 ⟨_, rfl, rfl⟩ rfl rfl, ?_⟩)) | ((with_reducible refine RunU.isStor ?_); (first | (refine h.storB 0 0 ⟨_, rfl, rfl⟩ rfl rfl rfl ?_; intro w h; dsimp only [updG, setO] at h) | (refine h.storB 1 0 ⟨_, rfl, rfl⟩ rfl rfl rfl ?_; intro w h; dsimp only [updG, setO] at h) | (refine h.storB 2 0 ⟨_, rfl, rfl⟩ rfl rfl rfl ?_; intro w h; dsimp only [updG, setO] at h) | (refine h.drew.storB 0 0 ⟨_, rfl, rfl⟩ rfl rfl rfl ?_; intro w h; dsimp only [updG, setO] at h) | (refine h.drew.storB 1 0 ⟨_, rfl, rfl⟩ rfl rfl rfl ?_; intro w h; dsimp only [updG, setO] at h) | (refine h.drew.storB 2 0 ⟨_, rfl, rfl⟩ rfl rfl rfl ?_; intro w h; dsimp only [updG, setO] at h))) | ((with_reducible refine RunN.isBox ?_); (first | (refine h.newB run_boxA rfl ?_; intro bn w h; try dsimp only at h) | (refine h.drew.newB run_boxA rfl ?_; intro bn w h; try dsimp only at h))) | ((with_reducible refine RunN.isNew ?_); (first | (refine h.newB (NewC.run _) rfl ?_; intro bn w h) | (refine h.drew.newB (NewC.run _) rfl ?_; intro bn w h))))
  have hwr : IntKind.i64.wrap ((i : Int) + ((s.len - (i + 1) : Nat) : Int)) = ((xs.length - 1 : Nat) : Int) := by rw [wr (by omega)]; omega
  refine RunN.sL (xs.length - 1) hwr (by omega) ?_
  have e1 : (subS s (xs.length - 1) s.len 3).len = 1 := by simp only [subS]; omega
  rw [e1]
  refine h.clear 2 1 ⟨_, rfl, rfl⟩ (xs.length - 1) (n := 1) (zero31 _) rfl rfl (by decide) (fun b o hb => subS_addr hb (by omega)) (by omega) ?_
  intro w h
  dsimp only [updG, setO] at h
  rw [← hel, row_take, List.take_append_of_le_length (Nat.le_refl _), List.take_of_length_le (Nat.le_refl _), hel, List.drop_of_length_le (by rw [row_len]; simp; omega), List.append_nil] at h
  repeat (first | (with_reducible refine NilP.mk ?_) | ((with_reducible refine RunN.isLoad ?_); (first | refine h.loadB 0 0 ⟨_, rfl, rfl⟩ rfl rfl ?_ | refine h.loadB 1 0 ⟨_, rfl, rfl⟩ rfl rfl ?_ | refine h.loadB 2 0 ⟨_, rfl, rfl⟩ rfl rfl ?_ | refine h.drew.loadB 0 0 ⟨_, rfl, rfl⟩ rfl rfl ?_ | refine h.drew.loadB 1 0 ⟨_, rfl, rfl⟩ rfl rfl ?_ | refine h.drew.loadB 2 0 ⟨_, rfl, rfl⟩ rfl rfl ?_)) | ((with_reducible refine ReadN.isLoad ?_); (first | refine h.readB 0 0 ⟨_, rfl, rfl⟩ rfl rfl ?_ | refine h.readB 1 0 ⟨_, rfl, rfl⟩ rfl rfl ?_ | refine h.readB 2 0 ⟨_, rfl, rfl⟩ rfl rfl ?_ | refine h.drew.readB 0 0 ⟨_, rfl, rfl⟩ rfl rfl ?_ | refine h.drew.readB 1 0 ⟨_, rfl, rfl⟩ rfl rfl ?_ | refine h.drew.readB 2 0 ⟨_, rfl, rfl⟩ rfl rfl ?_)) | ((with_reducible refine StillV.isLoad ?_); (first | refine ⟨h.stillB 0 0 ⟨_, rfl, rfl⟩ rfl rfl, ?_⟩ | refine ⟨h.stillB 1 0 ⟨_, rfl, rfl⟩ rfl rfl, ?_⟩ | refine ⟨h.stillB 2 0 ⟨_, rfl, rfl⟩ rfl rfl, ?_⟩)) | ((with_reducible refine RunU.isStor ?_); (first | (refine h.storB 0 0 ⟨_, rfl, rfl⟩ rfl rfl rfl ?_; intro w h; dsimp only [updG, setO] at h) | (refine h.storB 1 0 ⟨_, rfl, rfl⟩ rfl rfl rfl ?_; intro w h; dsimp only [updG, setO] at h) | (refine h.storB 2 0 ⟨_, rfl, rfl⟩ rfl rfl rfl ?_; intro w h; dsimp only [updG, setO] at h) | (refine h.drew.storB 0 0 ⟨_, rfl, rfl⟩ rfl rfl rfl ?_; intro w h; dsimp only [updG, setO] at h) | (refine h.drew.storB 1 0 ⟨_, rfl, rfl⟩ rfl rfl rfl ?_; intro w h; dsimp only [updG, setO] at h) | (refine h.drew.storB 2 0 ⟨_, rfl, rfl⟩ rfl rfl rfl ?_; intro w h; dsimp only [updG, setO] at h))) | ((with_reducible refine RunN.isBox ?_); (first | (refine h.newB run_boxA rfl ?_; intro bn w h; try dsimp only at h) | (refine h.drew.newB run_boxA rfl ?_; intro bn w h; try dsimp only at h))) | ((with_reducible refine RunN.isNew ?_); (first | (refine h.newB (NewC.run _) rfl ?_; intro bn w h) | (refine h.drew.newB (NewC.run _) rfl ?_; intro bn w h))))
  refine RunN.sH (xs.length - 1) hwr (by omega) ?_
  repeat (first | (with_reducible refine NilP.mk ?_) | ((with_reducible refine RunN.isLoad ?_); (first | refine h.loadB 0 0 ⟨_, rfl, rfl⟩ rfl rfl ?_ | refine h.loadB 1 0 ⟨_, rfl, rfl⟩ rfl rfl ?_ | refine h.loadB 2 0 ⟨_, rfl, rfl⟩ rfl rfl ?_ | refine h.drew.loadB 0 0 ⟨_, rfl, rfl⟩ rfl rfl ?_ | refine h.drew.loadB 1 0 ⟨_, rfl, rfl⟩ rfl rfl ?_ | refine h.drew.loadB 2 0 ⟨_, rfl, rfl⟩ rfl rfl ?_)) | ((with_reducible refine ReadN.isLoad ?_); (first | refine h.readB 0 0 ⟨_, rfl, rfl⟩ rfl rfl ?_ | refine h.readB 1 0 ⟨_, rfl, rfl⟩ rfl rfl ?_ | refine h.readB 2 0 ⟨_, rfl, rfl⟩ rfl rfl ?_ | refine h.drew.readB 0 0 ⟨_, rfl, rfl⟩ rfl rfl ?_ | refine h.drew.readB 1 0 ⟨_, rfl, rfl⟩ rfl rfl ?_ | refine h.drew.readB 2 0 ⟨_, rfl, rfl⟩ rfl rfl ?_)) | ((with_reducible refine StillV.isLoad ?_); (first | refine ⟨h.stillB 0 0 ⟨_, rfl, rfl⟩ rfl rfl, ?_⟩ | refine ⟨h.stillB 1 0 ⟨_, rfl, rfl⟩ rfl rfl, ?_⟩ | refine ⟨h.stillB 2 0 ⟨_, rfl, rfl⟩ rfl rfl, ?_⟩)) | ((with_reducible refine RunU.isStor ?_); (first | (refine h.storB 0 0 ⟨_, rfl, rfl⟩ rfl rfl rfl ?_; intro w h; dsimp only [updG, setO] at h) | (refine h.storB 1 0 ⟨_, rfl, rfl⟩ rfl rfl rfl ?_; intro w h; dsimp only [updG, setO] at h) | (refine h.storB 2 0 ⟨_, rfl, rfl⟩ rfl rfl rfl ?_; intro w h; dsimp only [updG, setO] at h) | (refine h.drew.storB 0 0 ⟨_, rfl, rfl⟩ rfl rfl rfl ?_; intro w h; dsimp only [updG, setO] at h) | (refine h.drew.storB 1 0 ⟨_, rfl, rfl⟩ rfl rfl rfl ?_; intro w h; dsimp only [updG, setO] at h) | (refine h.drew.storB 2 0 ⟨_, rfl, rfl⟩ rfl rfl rfl ?_; intro w h; dsimp only [updG, setO] at h))) | ((with_reducible refine RunN.isBox ?_); (first | (refine h.newB run_boxA rfl ?_; intro bn w h; try dsimp only at h) | (refine h.drew.newB run_boxA rfl ?_; intro bn w h; try dsimp only at h))) | ((with_reducible refine RunN.isNew ?_); (first | (refine h.newB (NewC.run _) rfl ?_; intro bn w h) | (refine h.drew.newB (NewC.run _) rfl ?_; intro bn w h))))
  have h := h.preR (k := 2) (i := 1) ⟨_, rfl, rfl⟩ (hi := xs.length - 1) (by omega)
  dsimp only [updG, setO] at h
  rw [← hel, List.take_append_of_le_length (by rw [row_len]; omega), List.take_of_length_le (by rw [row_len]; omega), hel] at h
  refine h.loadA 0 0 ⟨_, rfl, rfl⟩ rfl (xs[i].1.f, xs[i].1.t, xs[i].2, ()) (hk := ?_)
  refine h.storA 1 0 ⟨_, rfl, rfl⟩ rfl (hk := ?_)
  intro w h
  refine h.readA 1 0 ⟨_, rfl, rfl⟩ rfl (xs[i].1.f, xs[i].1.t, xs[i].2, ()) (hk := ?_)
  refine ⟨rfl, subS s 0 (xs.length - 1) 3, ?_⟩
  have h := (h.drop 0).drop 0
  dsimp only [updG, setO, delO] at h
  have h := h.pull (k := 0) (i := i + 2) (e := lrow xs[i]) ⟨_, rfl, nthO_map lrow xs hi⟩
  dsimp only [updG, delO] at h
  rw [delO_map] at h
  exact h
theorem zl31 (w : World) : (Instr.alloc 31 true (.tuple #[])).run Try.prog w = (Instr.alloc 31 true (.tuple #[])).run Try.prog w := rfl

theorem lens_erase {xs : List (Ltr × Sl)} {n i : Nat} (h : ∀ x ∈ xs, x.1.m.length ≤ n) : ∀ x ∈ xs.eraseIdx i, x.1.m.length ≤ n := fun x hx => h x (List.mem_of_mem_eraseIdx hx)

theorem deliver_st (h : St w0 w (bagG 54 B cap s xs :: F)) (hlen : xs.length ≤ 65536) {i : Int} :
    CallK Try.prog (.tup (.cons KL (.cons (.int .i64) .nilT))) 13 #[.pointer (some ⟨B, 0, none⟩), .int .i64 i] w fun (r : (Int × Int × Sl × Unit) × Int × Unit) w' =>
      (∃ (n : Nat) (hn : n < xs.length), i = (n : Int) ∧ r = ((xs[n].1.f, xs[n].1.t, xs[n].2, ()), 0, ()) ∧ ∃ s', St w0 w' ([lrow xs[n]] :: bagG 54 B cap s' (xs.eraseIdx n) :: F)) ∨
      (¬ (0 ≤ i ∧ i < (xs.length : Int)) ∧ r = ((0, 0, ⟨none, 0, 0⟩, ()), 40, ()) ∧ St w0 w' (bagG 54 B cap s xs :: F)) := by
  refine T13.calls ?_
  unfold T13
  repeat (first | (with_reducible refine NilP.mk ?_) | ((with_reducible refine RunN.isLoad ?_); (first | refine h.loadB 0 0 ⟨_, rfl, rfl⟩ rfl rfl ?_ | refine h.drew.loadB 0 0 ⟨_, rfl, rfl⟩ rfl rfl ?_)) | ((with_reducible refine ReadN.isLoad ?_); (first | refine h.readB 0 0 ⟨_, rfl, rfl⟩ rfl rfl ?_ | refine h.drew.readB 0 0 ⟨_, rfl, rfl⟩ rfl rfl ?_)) | ((with_reducible refine StillV.isLoad ?_); (first | refine ⟨h.stillB 0 0 ⟨_, rfl, rfl⟩ rfl rfl, ?_⟩)) | ((with_reducible refine RunU.isStor ?_); (first | (refine h.storB 0 0 ⟨_, rfl, rfl⟩ rfl rfl rfl ?_; intro w h; dsimp only [updG, setO] at h) | (refine h.drew.storB 0 0 ⟨_, rfl, rfl⟩ rfl rfl rfl ?_; intro w h; dsimp only [updG, setO] at h))) | ((with_reducible refine RunN.isBox ?_); (first | (refine h.newB run_boxA rfl ?_; intro bn w h; try dsimp only at h) | (refine h.drew.newB run_boxA rfl ?_; intro bn w h; try dsimp only at h))) | ((with_reducible refine RunN.isNew ?_); (first | (refine h.newB (NewC.run _) rfl ?_; intro bn w h) | (refine h.drew.newB (NewC.run _) rfl ?_; intro bn w h))))
  refine (in_st (h.bring 1 rfl) (i := i)).mono ?_
  rintro r w ⟨rfl, rfl⟩
  rw [SplitB_iff]
  refine ⟨fun hc => ?_, fun hc => ?_⟩
  · simp only [Bool.not_eq_true', decide_eq_false_iff_not] at hc
    refine h.storA 0 0 ⟨_, rfl, rfl⟩ rfl (hk := ?_)
    intro w h
    refine h.readA 0 0 ⟨_, rfl, rfl⟩ rfl (0, 0, ⟨none, 0, 0⟩, ()) (hk := ?_)
    exact .inr ⟨hc, rfl, h.drop 0⟩
  · simp only [Bool.not_eq_false', decide_eq_true_eq] at hc
    obtain ⟨n, rfl⟩ : ∃ n : Nat, i = (n : Int) := ⟨i.toNat, by omega⟩
    have hn : n < xs.length := by omega
    refine (take_st (h.bring 1 rfl) hlen hn).mono ?_
    rintro r w ⟨rfl, s', h⟩
    dsimp only [delO] at h
    refine h.storA 2 0 ⟨_, rfl, rfl⟩ rfl (hk := ?_)
    intro w h
    refine h.readA 2 0 ⟨_, rfl, rfl⟩ rfl (xs[n].1.f, xs[n].1.t, xs[n].2, ()) (hk := ?_)
    exact .inl ⟨n, hn, rfl, rfl, s', h.drop 2⟩

theorem drop_st (h : St w0 w (bagG 54 B cap s xs :: F)) (hlen : xs.length ≤ 65536) {i : Int} :
    CallK Try.prog (.int .i64) 25 #[.pointer (some ⟨B, 0, none⟩), .int .i64 i] w fun (r : Int) w' =>
      (∃ (n : Nat) (hn : n < xs.length), i = (n : Int) ∧ r = 0 ∧ ∃ s', St w0 w' (bagG 54 B cap s' (xs.eraseIdx n) :: F)) ∨
      (¬ (0 ≤ i ∧ i < (xs.length : Int)) ∧ r = 40 ∧ St w0 w' (bagG 54 B cap s xs :: F)) := by
  refine T25.calls ?_
  unfold T25
  refine (in_st h (i := i)).mono ?_
  rintro r w ⟨rfl, rfl⟩
  rw [SplitB_iff]
  refine ⟨fun hc => ?_, fun hc => ?_⟩
  · simp only [Bool.not_eq_true', decide_eq_false_iff_not] at hc
    exact .inr ⟨hc, rfl, h⟩
  · simp only [Bool.not_eq_false', decide_eq_true_eq] at hc
    obtain ⟨n, rfl⟩ : ∃ n : Nat, i = (n : Int) := ⟨i.toNat, by omega⟩
    have hn : n < xs.length := by omega
    refine (take_st h hlen hn).mono ?_
    rintro r w ⟨rfl, s', h⟩
    exact .inl ⟨n, hn, rfl, rfl, s', h.drop 0⟩

theorem at_st (h : St w0 w (bagG 54 B cap s xs :: F)) (hlen : xs.length ≤ 65536) (hm : ∀ x ∈ xs, x.1.m.length ≤ big) {i : Int} :
    CallK Try.prog (.tup (.cons KL (.cons (.int .i64) .nilT))) 16 #[.pointer (some ⟨B, 0, none⟩), .int .i64 i] w fun (r : (Int × Int × Sl × Unit) × Int × Unit) w' =>
      (∃ (n : Nat) (hn : n < xs.length), i = (n : Int) ∧ ∃ q, r = ((xs[n].1.f, xs[n].1.t, q, ()), 0, ()) ∧ St w0 w' ([lrow (xs[n].1, q)] :: bagG 54 B cap s xs :: F)) ∨
      (¬ (0 ≤ i ∧ i < (xs.length : Int)) ∧ r = ((0, 0, ⟨none, 0, 0⟩, ()), 40, ()) ∧ St w0 w' (bagG 54 B cap s xs :: F)) := by
  have hl := bag_len h
  refine T16.calls ?_
  unfold T16
  repeat (first | (with_reducible refine NilP.mk ?_) | ((with_reducible refine RunN.isLoad ?_); (first | refine h.loadB 0 0 ⟨_, rfl, rfl⟩ rfl rfl ?_ | refine h.drew.loadB 0 0 ⟨_, rfl, rfl⟩ rfl rfl ?_)) | ((with_reducible refine ReadN.isLoad ?_); (first | refine h.readB 0 0 ⟨_, rfl, rfl⟩ rfl rfl ?_ | refine h.drew.readB 0 0 ⟨_, rfl, rfl⟩ rfl rfl ?_)) | ((with_reducible refine StillV.isLoad ?_); (first | refine ⟨h.stillB 0 0 ⟨_, rfl, rfl⟩ rfl rfl, ?_⟩)) | ((with_reducible refine RunU.isStor ?_); (first | (refine h.storB 0 0 ⟨_, rfl, rfl⟩ rfl rfl rfl ?_; intro w h; dsimp only [updG, setO] at h) | (refine h.drew.storB 0 0 ⟨_, rfl, rfl⟩ rfl rfl rfl ?_; intro w h; dsimp only [updG, setO] at h))) | ((with_reducible refine RunN.isBox ?_); (first | (refine h.newB run_boxA rfl ?_; intro bn w h; try dsimp only at h) | (refine h.drew.newB run_boxA rfl ?_; intro bn w h; try dsimp only at h))) | ((with_reducible refine RunN.isNew ?_); (first | (refine h.newB (NewC.run _) rfl ?_; intro bn w h) | (refine h.drew.newB (NewC.run _) rfl ?_; intro bn w h))))
  refine (in_st (h.bring 1 rfl) (i := i)).mono ?_
  rintro r w ⟨rfl, rfl⟩
  rw [SplitB_iff]
  refine ⟨fun hc => ?_, fun hc => ?_⟩
  · simp only [Bool.not_eq_true', decide_eq_false_iff_not] at hc
    refine h.storA 0 0 ⟨_, rfl, rfl⟩ rfl (hk := ?_)
    intro w h
    refine h.readA 0 0 ⟨_, rfl, rfl⟩ rfl (0, 0, ⟨none, 0, 0⟩, ()) (hk := ?_)
    exact .inr ⟨hc, rfl, h.drop 0⟩
  · simp only [Bool.not_eq_false', decide_eq_true_eq] at hc
    obtain ⟨n, rfl⟩ : ∃ n : Nat, i = (n : Int) := ⟨i.toNat, by omega⟩
    have hn : n < xs.length := by omega
    repeat (first | (with_reducible refine NilP.mk ?_) | ((with_reducible refine RunN.isLoad ?_); (first | refine h.loadB 0 0 ⟨_, rfl, rfl⟩ rfl rfl ?_ | refine h.loadB 1 0 ⟨_, rfl, rfl⟩ rfl rfl ?_ | refine h.drew.loadB 0 0 ⟨_, rfl, rfl⟩ rfl rfl ?_ | refine h.drew.loadB 1 0 ⟨_, rfl, rfl⟩ rfl rfl ?_)) | ((with_reducible refine ReadN.isLoad ?_); (first | refine h.readB 0 0 ⟨_, rfl, rfl⟩ rfl rfl ?_ | refine h.readB 1 0 ⟨_, rfl, rfl⟩ rfl rfl ?_ | refine h.drew.readB 0 0 ⟨_, rfl, rfl⟩ rfl rfl ?_ | refine h.drew.readB 1 0 ⟨_, rfl, rfl⟩ rfl rfl ?_)) | ((with_reducible refine StillV.isLoad ?_); (first | refine ⟨h.stillB 0 0 ⟨_, rfl, rfl⟩ rfl rfl, ?_⟩ | refine ⟨h.stillB 1 0 ⟨_, rfl, rfl⟩ rfl rfl, ?_⟩)) | ((with_reducible refine RunU.isStor ?_); (first | (refine h.storB 0 0 ⟨_, rfl, rfl⟩ rfl rfl rfl ?_; intro w h; dsimp only [updG, setO] at h) | (refine h.storB 1 0 ⟨_, rfl, rfl⟩ rfl rfl rfl ?_; intro w h; dsimp only [updG, setO] at h) | (refine h.drew.storB 0 0 ⟨_, rfl, rfl⟩ rfl rfl rfl ?_; intro w h; dsimp only [updG, setO] at h) | (refine h.drew.storB 1 0 ⟨_, rfl, rfl⟩ rfl rfl rfl ?_; intro w h; dsimp only [updG, setO] at h))) | ((with_reducible refine RunN.isBox ?_); (first | (refine h.newB run_boxA rfl ?_; intro bn w h; try dsimp only at h) | (refine h.drew.newB run_boxA rfl ?_; intro bn w h; try dsimp only at h))) | ((with_reducible refine RunN.isNew ?_); (first | (refine h.newB (NewC.run _) rfl ?_; intro bn w h) | (refine h.drew.newB (NewC.run _) rfl ?_; intro bn w h))))
    refine (h.rd (k := 1) (i := 1) ⟨_, rfl, rfl⟩).idxK n rfl (by omega) ?_
    intro b o hb
    refine (h.rd (k := 1) (i := 1) ⟨_, rfl, rfl⟩).elA hb (n * 3) rfl (xs[n].1.f, xs[n].1.t, xs[n].2, ()) (row_at _ _ hn) ?_
    refine (own2_st (h.rd (letter_has (k := 1) rfl hn)) (hm _ (List.getElem_mem _))).mono ?_
    rintro ⟨f', t', q, ⟨⟩⟩ w ⟨e1, e2, hq⟩
    dsimp only at e1 e2 hq
    subst e1; subst e2
    have h := h.join hq
    refine h.storA 1 0 ⟨_, rfl, rfl⟩ rfl (hk := ?_)
    intro w h
    refine h.readA 1 0 ⟨_, rfl, rfl⟩ rfl (xs[n].1.f, xs[n].1.t, q, ()) (hk := ?_)
    exact .inl ⟨n, hn, rfl, q, rfl, h.drop 1⟩

theorem double_st (h : St w0 w (bagG 54 B cap s xs :: F)) (hlen : xs.length ≤ 65536) (hm : ∀ x ∈ xs, x.1.m.length ≤ big) {i : Int} :
    CallK Try.prog (.int .i64) 24 #[.pointer (some ⟨B, 0, none⟩), .int .i64 i] w fun (r : Int) w' =>
      (∃ (n : Nat) (hn : n < xs.length), i = (n : Int) ∧ (xs.length : Int) ≠ cap ∧ r = 0 ∧ ∃ s' q, St w0 w' (bagG 54 B cap s' (xs ++ [(xs[n].1, q)]) :: F)) ∨
      ((0 ≤ i ∧ i < (xs.length : Int)) ∧ (xs.length : Int) = cap ∧ r = 41 ∧ St w0 w' (bagG 54 B cap s xs :: F)) ∨
      (¬ (0 ≤ i ∧ i < (xs.length : Int)) ∧ r = 40 ∧ St w0 w' (bagG 54 B cap s xs :: F)) := by
  have hl := bag_len h
  refine T24.calls ?_
  unfold T24
  refine (in_st h (i := i)).mono ?_
  rintro r w ⟨rfl, rfl⟩
  rw [SplitB_iff]
  refine ⟨fun hc => ?_, fun hc => ?_⟩
  · simp only [Bool.not_eq_true', decide_eq_false_iff_not] at hc
    exact .inr (.inr ⟨hc, rfl, h⟩)
  · simp only [Bool.not_eq_false', decide_eq_true_eq] at hc
    obtain ⟨n, rfl⟩ : ∃ n : Nat, i = (n : Int) := ⟨i.toNat, by omega⟩
    have hn : n < xs.length := by omega
    refine (full_st h).mono ?_
    rintro r w ⟨hu, rfl⟩
    have h := h.keep hu
    rw [SplitB_iff]
    refine ⟨fun hf => ?_, fun hf => ?_⟩
    · exact .inr (.inl ⟨hc, of_decide_eq_true hf, rfl, h⟩)
    · have hf : (xs.length : Int) ≠ cap := of_decide_eq_false hf
      repeat (first | (with_reducible refine NilP.mk ?_) | ((with_reducible refine RunN.isLoad ?_); (first | refine h.loadB 0 0 ⟨_, rfl, rfl⟩ rfl rfl ?_ | refine h.drew.loadB 0 0 ⟨_, rfl, rfl⟩ rfl rfl ?_)) | ((with_reducible refine ReadN.isLoad ?_); (first | refine h.readB 0 0 ⟨_, rfl, rfl⟩ rfl rfl ?_ | refine h.drew.readB 0 0 ⟨_, rfl, rfl⟩ rfl rfl ?_)) | ((with_reducible refine StillV.isLoad ?_); (first | refine ⟨h.stillB 0 0 ⟨_, rfl, rfl⟩ rfl rfl, ?_⟩)) | ((with_reducible refine RunU.isStor ?_); (first | (refine h.storB 0 0 ⟨_, rfl, rfl⟩ rfl rfl rfl ?_; intro w h; dsimp only [updG, setO] at h) | (refine h.drew.storB 0 0 ⟨_, rfl, rfl⟩ rfl rfl rfl ?_; intro w h; dsimp only [updG, setO] at h))) | ((with_reducible refine RunN.isBox ?_); (first | (refine h.newB run_boxA rfl ?_; intro bn w h; try dsimp only at h) | (refine h.drew.newB run_boxA rfl ?_; intro bn w h; try dsimp only at h))) | ((with_reducible refine RunN.isNew ?_); (first | (refine h.newB (NewC.run _) rfl ?_; intro bn w h) | (refine h.drew.newB (NewC.run _) rfl ?_; intro bn w h))))
      refine (h.drew.rd (k := 0) (i := 1) ⟨_, rfl, rfl⟩).idxR n rfl (by omega) ?_
      intro b o hb
      refine (h.drew.rd (k := 0) (i := 1) ⟨_, rfl, rfl⟩).elAR hb (n * 3) rfl (xs[n].1.f, xs[n].1.t, xs[n].2, ()) (row_at _ _ hn) ?_
      refine (own2_st (h.drew.rd (letter_has (k := 0) rfl hn)) (hm _ (List.getElem_mem _))).mono ?_
      rintro ⟨f', t', q, ⟨⟩⟩ w ⟨e1, e2, hq⟩
      dsimp only at e1 e2 hq
      subst e1; subst e2
      have h := h.drew.join hq
      refine ⟨h.stillB 1 0 ⟨_, rfl, rfl⟩ rfl rfl, ?_⟩
      refine h.newS 3 (bs22 _ _ _ _) rfl rfl rfl ?_
      intro s4 w h1 h2 h3 h
      refine ⟨h.stillB 2 0 ⟨_, rfl, rfl⟩ rfl rfl, ?_⟩
      refine h.app 2 1 ⟨_, rfl, rfl⟩ (h.rd (k := 0) (i := 0) ⟨_, rfl, rfl⟩) (lc_one _ _ _) (by simp only [maxLen]; omega) (by omega) ?_
      intro s5 w h5 h
      dsimp only [updG, setO, bagG] at h
      refine h.storB 2 0 ⟨_, rfl, rfl⟩ rfl rfl rfl ?_
      intro w h
      dsimp only [updG, setO] at h
      refine .inl ⟨n, hn, rfl, hf, rfl, s5, q, ?_⟩
      have h := (h.drop 0).into
      rw [bagG_snoc]; exact h

theorem new_st (h : St w0 w F) {n : Int} : CallK Try.prog (.tup (.cons .ptr (.cons (.int .i64) .nilT))) 8 #[.int .i64 n] w fun (r : Option Addr × Int × Unit) w' =>
    (1 ≤ n ∧ n ≤ 1024 ∧ ∃ B, r = (some ⟨B, 0, none⟩, 0, ()) ∧ St w0 w' (bagG 54 B n ⟨none, 0, 0⟩ [] :: F)) ∨ (¬ (1 ≤ n ∧ n ≤ 1024) ∧ r = (none, 1, ()) ∧ St w0 w' F) := by
  refine T8.calls ?_
  unfold T8
  dsimp only [JoinX]
  rw [SplitB_iff]
  refine ⟨fun h1 => ?_, fun h1 => ?_⟩
  · have h1 : n < 1 := of_decide_eq_true h1
    exact .inr ⟨by omega, rfl, h⟩
  · have h1 : ¬ n < 1 := of_decide_eq_false h1
    rw [SplitB_iff]
    refine ⟨fun h2 => ?_, fun h2 => ?_⟩
    · have h2 : n > 1024 := of_decide_eq_true h2
      exact .inr ⟨by omega, rfl, h⟩
    · have h2 : ¬ n > 1024 := of_decide_eq_false h2
      refine h.newB (run_box rfl) rfl ?_
      intro B w h
      refine .inl ⟨by omega, by omega, B, rfl, ?_⟩
      have h := ((h.nilrow 31 3).bring 1 rfl)
      exact h.perm (by simp [delO, bagG, row])
end Go.Proofs.Ytmhjlngkdppgpaa
