/- The bag, in memory of one's own: what its methods come to. -/
import Derived.Test.YtmhjlngkdppgpaaNtM
import Derived.Test.YtmhjlngkdppgpaaFwT
namespace Go.Proofs.Ytmhjlngkdppgpaa
open Go Go.Fw Go.RowKit
set_option linter.unusedVariables false
set_option linter.unusedSimpArgs false
set_option maxRecDepth 4000

instance : Sc Try.prog 3 := ⟨by kernel_rfl⟩
instance : Sc Try.prog 5 := ⟨by kernel_rfl⟩
instance : Sc Try.prog 9 := ⟨by kernel_rfl⟩
instance : Sc Try.prog 22 := ⟨by kernel_rfl⟩
instance : Sc Try.prog 23 := ⟨by kernel_rfl⟩
instance : Sc Try.prog 29 := ⟨by kernel_rfl⟩
instance : Sc Try.prog 57 := ⟨by kernel_rfl⟩
instance : Sc Try.prog 60 := ⟨by kernel_rfl⟩
instance : Sc Try.prog 61 := ⟨by kernel_rfl⟩
instance : Sc Try.prog 62 := ⟨by kernel_rfl⟩
instance : Ag Try.prog 31 3 := ⟨by kernel_rfl⟩
instance : Ag Try.prog 48 7 := ⟨by kernel_rfl⟩
instance : Et Try.prog 22 31 3 40 := ⟨et22, by decide⟩
instance : Et Try.prog 29 5 1 1 := ⟨et29, by decide⟩
instance : Et Try.prog 60 29 1 24 := ⟨ET.of (by kernel_rfl), by decide⟩
instance : Et Try.prog 61 3 1 8 := ⟨ET.of (by kernel_rfl), by decide⟩
instance : Et Try.prog 62 9 1 16 := ⟨ET.of (by kernel_rfl), by decide⟩
instance : NewC Try.prog 31 [.int .i64 0, .int .i64 0, .slice none 0 0] := ⟨fun w => by kernel_rfl⟩

def lrow (x : Ltr × Sl) : Ent := .row 5 1 x.2 (bys x.1.m)
def bagG (ty B : Nat) (cap : Int) (s : Sl) (xs : List (Ltr × Sl)) : List Ent := .cel B ty [.int .i64 cap, .slice s.a s.len s.cap] :: .row 31 3 s (row xs) :: xs.map lrow
theorem bagG_snoc (ty B : Nat) (cap : Int) (s : Sl) (xs : List (Ltr × Sl)) (x : Ltr × Sl) : bagG ty B cap s (xs ++ [x]) = (.cel B ty [.int .i64 cap, .slice s.a s.len s.cap] :: .row 31 3 s (row xs ++ lc x.1.f x.1.t x.2) :: xs.map lrow) ++ [.row 5 1 x.2 (bys x.1.m)] := by
  simp [bagG, row, lrow]
variable {w0 w : World} {F : Grps} {B : Nat} {cap : Int} {s : Sl} {xs : List (Ltr × Sl)} {ty : Nat}
theorem bag_len (h : St w0 w (bagG ty B cap s xs :: F)) : s.len = xs.length := by
  have := (h.rd (k := 0) (i := 1) ⟨_, rfl, rfl⟩).1
  rw [row_len] at this; omega
theorem own2_st {f t : Int} {s : Sl} {m : List UInt8} (hr : Rd w s 1 (bys m)) (hm : m.length ≤ big) :
    CallK Try.prog KL 28 #[.agg #[.int .i64 f, .int .i64 t, .slice s.a s.len s.cap]] w fun (r : Int × Int × Sl × Unit) w' => r.1 = f ∧ r.2.1 = t ∧ St w w' [[.row 5 1 r.2.2.1 (bys m)]] :=
  (own2_ok hr hm).mono fun r w' ⟨hu, h1, h2, ho⟩ => ⟨h1, h2, St.ofOw hu ho (bys_one _)⟩
theorem full_st (h : St w0 w (bagG ty B cap s xs :: F)) : CallK Try.prog .bool 27 #[.pointer (some ⟨B, 0, none⟩)] w fun (r : Bool) w' => Upd w w' nobody ∧ r = decide ((xs.length : Int) = cap) := by
  have hl := bag_len h
  refine T27.calls ?_
  unfold T27
  repeat (first | (with_reducible refine NilP.mk ?_) | ((with_reducible refine RunN.isLoad ?_); (first | refine h.loadB 0 0 ⟨_, rfl, rfl⟩ rfl rfl ?_ | refine h.drew.loadB 0 0 ⟨_, rfl, rfl⟩ rfl rfl ?_)) | ((with_reducible refine ReadN.isLoad ?_); (first | refine h.readB 0 0 ⟨_, rfl, rfl⟩ rfl rfl ?_ | refine h.drew.readB 0 0 ⟨_, rfl, rfl⟩ rfl rfl ?_)) | ((with_reducible refine StillV.isLoad ?_); (first | refine ⟨h.stillB 0 0 ⟨_, rfl, rfl⟩ rfl rfl, ?_⟩)) | ((with_reducible refine RunU.isStor ?_); (first | (refine h.storB 0 0 ⟨_, rfl, rfl⟩ rfl rfl rfl ?_; intro w h; dsimp only [updG, setO] at h) | (refine h.drew.storB 0 0 ⟨_, rfl, rfl⟩ rfl rfl rfl ?_; intro w h; dsimp only [updG, setO] at h))) | ((with_reducible refine RunN.isBox ?_); (first | (refine h.newB run_boxA rfl ?_; intro bn w h; try dsimp only at h) | (refine h.drew.newB run_boxA rfl ?_; intro bn w h; try dsimp only at h))) | ((with_reducible refine RunN.isNew ?_); (first | (refine h.newB (NewC.run _) rfl ?_; intro bn w h) | (refine h.drew.newB (NewC.run _) rfl ?_; intro bn w h))))
  refine ⟨Upd.drew _ _, ?_⟩
  rw [hl]; rfl
theorem in_st (h : St w0 w (bagG ty B cap s xs :: F)) {i : Int} : CallK Try.prog .bool 29 #[.pointer (some ⟨B, 0, none⟩), .int .i64 i] w fun (r : Bool) w' => w' = w ∧ r = decide (0 ≤ i ∧ i < (xs.length : Int)) := by
  have hl := bag_len h
  refine T29.calls ?_
  unfold T29
  rw [SplitB_iff]
  refine ⟨fun h0 => ?_, fun h0 => ?_⟩
  · have h0 : i ≥ 0 := of_decide_eq_true h0
    repeat (first | (with_reducible refine NilP.mk ?_) | ((with_reducible refine RunN.isLoad ?_); (first | refine h.loadB 0 0 ⟨_, rfl, rfl⟩ rfl rfl ?_ | refine h.drew.loadB 0 0 ⟨_, rfl, rfl⟩ rfl rfl ?_)) | ((with_reducible refine ReadN.isLoad ?_); (first | refine h.readB 0 0 ⟨_, rfl, rfl⟩ rfl rfl ?_ | refine h.drew.readB 0 0 ⟨_, rfl, rfl⟩ rfl rfl ?_)) | ((with_reducible refine StillV.isLoad ?_); (first | refine ⟨h.stillB 0 0 ⟨_, rfl, rfl⟩ rfl rfl, ?_⟩)) | ((with_reducible refine RunU.isStor ?_); (first | (refine h.storB 0 0 ⟨_, rfl, rfl⟩ rfl rfl rfl ?_; intro w h; dsimp only [updG, setO] at h) | (refine h.drew.storB 0 0 ⟨_, rfl, rfl⟩ rfl rfl rfl ?_; intro w h; dsimp only [updG, setO] at h))) | ((with_reducible refine RunN.isBox ?_); (first | (refine h.newB run_boxA rfl ?_; intro bn w h; try dsimp only at h) | (refine h.drew.newB run_boxA rfl ?_; intro bn w h; try dsimp only at h))) | ((with_reducible refine RunN.isNew ?_); (first | (refine h.newB (NewC.run _) rfl ?_; intro bn w h) | (refine h.drew.newB (NewC.run _) rfl ?_; intro bn w h))))
    refine ⟨rfl, ?_⟩
    rw [hl]; simp; omega
  · have h0 : ¬ i ≥ 0 := of_decide_eq_false h0
    exact ⟨rfl, by simp; omega⟩
theorem len_st (h : St w0 w (bagG ty B cap s xs :: F)) : CallK Try.prog (.int .i64) 12 #[.pointer (some ⟨B, 0, none⟩)] w fun (r : Int) w' => w' = w ∧ r = (xs.length : Int) := by
  have hl := bag_len h
  refine T12.calls ?_
  unfold T12
  repeat (first | (with_reducible refine NilP.mk ?_) | ((with_reducible refine RunN.isLoad ?_); (first | refine h.loadB 0 0 ⟨_, rfl, rfl⟩ rfl rfl ?_ | refine h.drew.loadB 0 0 ⟨_, rfl, rfl⟩ rfl rfl ?_)) | ((with_reducible refine ReadN.isLoad ?_); (first | refine h.readB 0 0 ⟨_, rfl, rfl⟩ rfl rfl ?_ | refine h.drew.readB 0 0 ⟨_, rfl, rfl⟩ rfl rfl ?_)) | ((with_reducible refine StillV.isLoad ?_); (first | refine ⟨h.stillB 0 0 ⟨_, rfl, rfl⟩ rfl rfl, ?_⟩)) | ((with_reducible refine RunU.isStor ?_); (first | (refine h.storB 0 0 ⟨_, rfl, rfl⟩ rfl rfl rfl ?_; intro w h; dsimp only [updG, setO] at h) | (refine h.drew.storB 0 0 ⟨_, rfl, rfl⟩ rfl rfl rfl ?_; intro w h; dsimp only [updG, setO] at h))) | ((with_reducible refine RunN.isBox ?_); (first | (refine h.newB run_boxA rfl ?_; intro bn w h; try dsimp only at h) | (refine h.drew.newB run_boxA rfl ?_; intro bn w h; try dsimp only at h))) | ((with_reducible refine RunN.isNew ?_); (first | (refine h.newB (NewC.run _) rfl ?_; intro bn w h) | (refine h.drew.newB (NewC.run _) rfl ?_; intro bn w h))))
  exact ⟨rfl, by rw [hl]⟩

/-- What may be read as long as the rest stands. -/
def Sees (w0 : World) (F : Grps) (p : Sl) (sz : Nat) (vs : List Value) : Prop := ∀ w, St w0 w F → Rd w p sz vs

theorem send_st (h : St w0 w (bagG 54 B cap s xs :: F)) (hlen : xs.length ≤ 65536) {f t : Int} {p : Sl} {m : List UInt8} (hr : Sees w0 F p 1 (bys m)) (hm : m.length ≤ big) :
    CallK Try.prog (.int .i64) 10 #[.pointer (some ⟨B, 0, none⟩), .agg #[.int .i64 f, .int .i64 t, .slice p.a p.len p.cap]] w fun (r : Int) w' =>
      ((xs.length : Int) = cap ∧ r = 41 ∧ St w0 w' (bagG 54 B cap s xs :: F)) ∨
      ((xs.length : Int) ≠ cap ∧ r = 0 ∧ ∃ s' q, St w0 w' (bagG 54 B cap s' (xs ++ [(⟨f, t, m⟩, q)]) :: F)) := by
  have hl := bag_len h
  refine T10.calls (p1 := (f, t, p, ())) ?_
  unfold T10
  repeat (first | (with_reducible refine NilP.mk ?_) | ((with_reducible refine RunN.isLoad ?_); (first | refine h.loadB 0 0 ⟨_, rfl, rfl⟩ rfl rfl ?_ | refine h.drew.loadB 0 0 ⟨_, rfl, rfl⟩ rfl rfl ?_)) | ((with_reducible refine ReadN.isLoad ?_); (first | refine h.readB 0 0 ⟨_, rfl, rfl⟩ rfl rfl ?_ | refine h.drew.readB 0 0 ⟨_, rfl, rfl⟩ rfl rfl ?_)) | ((with_reducible refine StillV.isLoad ?_); (first | refine ⟨h.stillB 0 0 ⟨_, rfl, rfl⟩ rfl rfl, ?_⟩)) | ((with_reducible refine RunU.isStor ?_); (first | (refine h.storB 0 0 ⟨_, rfl, rfl⟩ rfl rfl rfl ?_; intro w h; dsimp only [updG, setO] at h) | (refine h.drew.storB 0 0 ⟨_, rfl, rfl⟩ rfl rfl rfl ?_; intro w h; dsimp only [updG, setO] at h))) | ((with_reducible refine RunN.isBox ?_); (first | (refine h.newB run_boxA rfl ?_; intro bn w h; try dsimp only at h) | (refine h.drew.newB run_boxA rfl ?_; intro bn w h; try dsimp only at h))) | ((with_reducible refine RunN.isNew ?_); (first | (refine h.newB (NewC.run _) rfl ?_; intro bn w h) | (refine h.drew.newB (NewC.run _) rfl ?_; intro bn w h))))
  refine (full_st (h.bring 1 rfl)).mono ?_
  rintro r w ⟨hu, rfl⟩
  have h := h.keep hu
  rw [SplitB_iff]
  refine ⟨fun hc => ?_, fun hc => ?_⟩
  · exact .inl ⟨of_decide_eq_true hc, rfl, h.drop 0⟩
  · have hc : (xs.length : Int) ≠ cap := of_decide_eq_false hc
    repeat (first | (with_reducible refine NilP.mk ?_) | ((with_reducible refine RunN.isLoad ?_); (first | refine h.loadB 0 0 ⟨_, rfl, rfl⟩ rfl rfl ?_ | refine h.loadB 1 0 ⟨_, rfl, rfl⟩ rfl rfl ?_ | refine h.drew.loadB 0 0 ⟨_, rfl, rfl⟩ rfl rfl ?_ | refine h.drew.loadB 1 0 ⟨_, rfl, rfl⟩ rfl rfl ?_)) | ((with_reducible refine ReadN.isLoad ?_); (first | refine h.readB 0 0 ⟨_, rfl, rfl⟩ rfl rfl ?_ | refine h.readB 1 0 ⟨_, rfl, rfl⟩ rfl rfl ?_ | refine h.drew.readB 0 0 ⟨_, rfl, rfl⟩ rfl rfl ?_ | refine h.drew.readB 1 0 ⟨_, rfl, rfl⟩ rfl rfl ?_)) | ((with_reducible refine StillV.isLoad ?_); (first | refine ⟨h.stillB 0 0 ⟨_, rfl, rfl⟩ rfl rfl, ?_⟩ | refine ⟨h.stillB 1 0 ⟨_, rfl, rfl⟩ rfl rfl, ?_⟩)) | ((with_reducible refine RunU.isStor ?_); (first | (refine h.storB 0 0 ⟨_, rfl, rfl⟩ rfl rfl rfl ?_; intro w h; dsimp only [updG, setO] at h) | (refine h.storB 1 0 ⟨_, rfl, rfl⟩ rfl rfl rfl ?_; intro w h; dsimp only [updG, setO] at h) | (refine h.drew.storB 0 0 ⟨_, rfl, rfl⟩ rfl rfl rfl ?_; intro w h; dsimp only [updG, setO] at h) | (refine h.drew.storB 1 0 ⟨_, rfl, rfl⟩ rfl rfl rfl ?_; intro w h; dsimp only [updG, setO] at h))) | ((with_reducible refine RunN.isBox ?_); (first | (refine h.newB run_boxA rfl ?_; intro bn w h; try dsimp only at h) | (refine h.drew.newB run_boxA rfl ?_; intro bn w h; try dsimp only at h))) | ((with_reducible refine RunN.isNew ?_); (first | (refine h.newB (NewC.run _) rfl ?_; intro bn w h) | (refine h.drew.newB (NewC.run _) rfl ?_; intro bn w h))))
    refine h.drew.readA 0 0 ⟨_, rfl, rfl⟩ rfl (f, t, p, ()) (hk := ?_)
    refine (own2_st (hr _ ((h.drew.drop 0).drop 0)) hm).mono ?_
    rintro ⟨f', t', q, ⟨⟩⟩ w ⟨e1, e2, hn⟩
    dsimp only at e1 e2 hn
    subst e1; subst e2
    have h := h.drew.join hn
    refine ⟨h.stillB 2 0 ⟨_, rfl, rfl⟩ rfl rfl, ?_⟩
    refine h.newS 3 (bs22 _ _ _ _) rfl rfl rfl ?_
    intro s4 w h1 h2 h3 h
    refine ⟨h.stillB 3 0 ⟨_, rfl, rfl⟩ rfl rfl, ?_⟩
    refine h.app 3 1 ⟨_, rfl, rfl⟩ (h.rd (k := 0) (i := 0) ⟨_, rfl, rfl⟩) (lc_one _ _ _) (by simp only [maxLen]; omega) (by omega) ?_
    intro s5 w h5 h
    dsimp only [updG, setO, bagG] at h
    refine h.storB 3 0 ⟨_, rfl, rfl⟩ rfl rfl rfl ?_
    intro w h
    dsimp only [updG, setO] at h
    refine .inr ⟨hc, rfl, s5, q, ?_⟩
    have h := ((h.drop 0).drop 1).into
    rw [bagG_snoc]; exact h
end Go.Proofs.Ytmhjlngkdppgpaa
