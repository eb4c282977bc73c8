/- The journal: Open, Len, At, Room. -/
import Derived.Test.YtimebochhbfkgaaJkG
namespace Go.Proofs.Ytimebochhbfkgaa
open Go Go.Fw Go.RowKit
set_option linter.unusedVariables false
set_option linter.unusedSimpArgs false
set_option maxRecDepth 4000
set_option maxHeartbeats 2000000
variable {w0 w : World} {F G : Grps} {d : D} {j : J}

/-- The records that stand one behind the other, up to a sector. -/
inductive Scan (ims : List (List UInt8)) : List (List UInt8) → Nat → Prop
  | nil : Scan ims [] 0
  | snoc {l : List (List UInt8)} {n : Nat} {b : List UInt8} : Scan ims l n → recAt (l.length + 1) (ims.drop n) = some b → Scan ims (l ++ [b]) (n + cnt b.length)
def Opened (ims l : List (List UInt8)) (n : Nat) : Prop := Scan ims l n ∧ recAt (l.length + 1) (ims.drop n) = none
theorem Scan.le {ims l : List (List UInt8)} {n : Nat} (h5 : ∀ s ∈ ims, s.length = 512) (h : Scan ims l n) : n ≤ ims.length ∧ l.length ≤ n ∧ ∀ x ∈ l, x.length ≤ 8192 := by
  induction h with
  | nil => exact ⟨Nat.zero_le _, Nat.le_refl _, fun x hx => by cases hx⟩
  | snoc hs hr ih =>
    obtain ⟨i1, i2, i3⟩ := ih
    obtain ⟨h1, h2⟩ := recAt_len (fun s hs => h5 s (List.mem_of_mem_drop hs)) hr
    rw [List.length_drop] at h2
    have := cnt_pos (‹List UInt8›).length
    refine ⟨by omega, by simp; omega, fun x hx => ?_⟩
    rcases List.mem_append.1 hx with hx | hx
    · exact i3 x hx
    · simp at hx; subst hx; exact h1

theorem open_nil : CallK Try.prog (.tup (.cons .ptr (.cons (.int .i64) .nilT))) 11 #[.pointer none] w fun (r : Option Addr × Int × Unit) w' => r = (none, 1, ()) ∧ w' = w := by
  refine T11.calls ?_
  unfold T11
  first | refine RunN.pEqS ?_ | refine RunN.pEqN ?_ | refine RunN.pNeS ?_ | refine RunN.pNeN ?_
  rw [SplitB_iff]
  exact ⟨fun _ => ⟨rfl, rfl⟩, fun hz => by cases hz⟩
theorem open_off (h : St w0 w (dg d :: F)) (ho : d.off = true) : CallK Try.prog (.tup (.cons .ptr (.cons (.int .i64) .nilT))) 11 #[.pointer d.p] w fun (r : Option Addr × Int × Unit) w' => r = (none, 200, ()) ∧ St w0 w' (dg d :: F) := by
  refine T11.calls ?_
  unfold T11
  first | refine RunN.pEqS ?_ | refine RunN.pEqN ?_ | refine RunN.pNeS ?_ | refine RunN.pNeN ?_
  rw [SplitB_iff]
  refine ⟨(fun hz => by cases hz), fun _ => ?_⟩
  refine (ison_st h).mono ?_
  rintro r w ⟨rfl, h⟩
  rw [ho, SplitB_iff]
  exact ⟨fun _ => ⟨rfl, h⟩, fun hz => by cases hz⟩
theorem open_st (h : St w0 w (dg d :: F)) (ok : DOk d) (ho : d.off = false) : CallK Try.prog (.tup (.cons .ptr (.cons (.int .i64) .nilT))) 11 #[.pointer d.p] w fun (r : Option Addr × Int × Unit) w' =>
    ∃ j : J, r = (j.p, 0, ()) ∧ j.dead = false ∧ JOk j d ∧ Opened d.abs.ims (j.recs.map (·.2)) j.next ∧ St w0 w' (dg d :: jg j d.p :: F) := by
  have hsm := ok.small
  have hil : d.abs.ims.length = d.secs.length := by simp [D.abs]
  refine T11.calls ?_
  unfold T11
  first | refine RunN.pEqS ?_ | refine RunN.pEqN ?_ | refine RunN.pNeS ?_ | refine RunN.pNeN ?_
  rw [SplitB_iff]
  refine ⟨(fun hz => by cases hz), fun _ => ?_⟩
  refine (ison_st h).mono ?_
  rintro r w ⟨rfl, h⟩
  rw [ho, SplitB_iff]
  refine ⟨(fun hz => by cases hz), fun _ => ?_⟩
  have h := h.nilrow 31 1
  refine h.newB run_boxA rfl ?_
  intro bn w h
  have h := St.one.2 h
  have h := h.bring 1 rfl
  dsimp only [delO] at h
  have h : St w0 w (dg d :: jg ⟨bn, ⟨none, 0, 0⟩, [], 0, false⟩ d.p :: F) := h
  refine mkW (fun _ w' => ∃ j : J, j.b = bn ∧ j.dead = false ∧ Scan d.abs.ims (j.recs.map (·.2)) j.next ∧ St w0 w' (dg d :: jg j d.p :: F)) (fun _ w => d.secs.length - cellN bn 2 w) ⟨_, rfl, rfl, .nil, h⟩ ?_
  clear h
  rintro ⟨⟩ w ⟨j, rfl, hd, hs, h⟩ K hK
  dsimp only at hK ⊢
  obtain ⟨hn1, hn2, hn3⟩ := hs.le (ims_len ok)
  rw [hil] at hn1
  rw [List.length_map] at hn2
  have hn3' : ∀ x ∈ j.recs, x.2.length ≤ 8192 := fun x hx => hn3 _ (List.mem_map.2 ⟨x, hx, rfl⟩)
  have jok : JOk j d := ⟨hn1, hn2, hn3'⟩
  have hcell := cellN_of h (k := 1) (i := 0) ⟨_, rfl, rfl⟩ (m := 2) (n := j.next) rfl
  refine (record_st h ok jok ho).mono ?_
  rintro ⟨r, rb, ⟨⟩⟩ w (⟨b, hr, hrb, hrl, h⟩ | ⟨hr, hrb, h⟩)
  · dsimp only at hrb hrl h ⊢
    subst hrb
    rw [SplitB_iff]
    refine ⟨(fun hz => by cases hz), fun _ => ?_⟩
    have hjl := jg_len h (k := 2) rfl
    obtain ⟨hb1, hb2⟩ := recAt_len (fun s hs => ims_len ok s (List.mem_of_mem_drop hs)) hr
    rw [List.length_drop, hil] at hb2
    have hcp := cnt_pos b.length
    repeat (first | (with_reducible refine NilP.mk ?_) | ((with_reducible refine RunN.isLoad ?_); (first | refine h.loadB 0 0 ⟨_, rfl, rfl⟩ rfl rfl ?_ | refine h.loadB 1 0 ⟨_, rfl, rfl⟩ rfl rfl ?_ | refine h.loadB 2 0 ⟨_, rfl, rfl⟩ rfl rfl ?_ | refine h.drew.loadB 0 0 ⟨_, rfl, rfl⟩ rfl rfl ?_ | refine h.drew.loadB 1 0 ⟨_, rfl, rfl⟩ rfl rfl ?_ | refine h.drew.loadB 2 0 ⟨_, rfl, rfl⟩ rfl rfl ?_)) | ((with_reducible refine ReadN.isLoad ?_); (first | refine h.readB 0 0 ⟨_, rfl, rfl⟩ rfl rfl ?_ | refine h.readB 1 0 ⟨_, rfl, rfl⟩ rfl rfl ?_ | refine h.readB 2 0 ⟨_, rfl, rfl⟩ rfl rfl ?_ | refine h.drew.readB 0 0 ⟨_, rfl, rfl⟩ rfl rfl ?_ | refine h.drew.readB 1 0 ⟨_, rfl, rfl⟩ rfl rfl ?_ | refine h.drew.readB 2 0 ⟨_, rfl, rfl⟩ rfl rfl ?_)) | ((with_reducible refine StillV.isLoad ?_); (first | refine ⟨h.stillB 0 0 ⟨_, rfl, rfl⟩ rfl rfl, ?_⟩ | refine ⟨h.stillB 1 0 ⟨_, rfl, rfl⟩ rfl rfl, ?_⟩ | refine ⟨h.stillB 2 0 ⟨_, rfl, rfl⟩ rfl rfl, ?_⟩)) | ((with_reducible refine RunU.isStor ?_); (first | (refine h.storB 0 0 ⟨_, rfl, rfl⟩ rfl rfl rfl ?_; intro w h; dsimp only [updG, setO] at h) | (refine h.storB 1 0 ⟨_, rfl, rfl⟩ rfl rfl rfl ?_; intro w h; dsimp only [updG, setO] at h) | (refine h.storB 2 0 ⟨_, rfl, rfl⟩ rfl rfl rfl ?_; intro w h; dsimp only [updG, setO] at h) | (refine h.drew.storB 0 0 ⟨_, rfl, rfl⟩ rfl rfl rfl ?_; intro w h; dsimp only [updG, setO] at h) | (refine h.drew.storB 1 0 ⟨_, rfl, rfl⟩ rfl rfl rfl ?_; intro w h; dsimp only [updG, setO] at h) | (refine h.drew.storB 2 0 ⟨_, rfl, rfl⟩ rfl rfl rfl ?_; intro w h; dsimp only [updG, setO] at h))) | ((with_reducible refine RunN.isBox ?_); (first | (refine h.newB run_boxA rfl ?_; intro bn w h; try dsimp only at h) | (refine h.drew.newB run_boxA rfl ?_; intro bn w h; try dsimp only at h))) | ((with_reducible refine RunN.isNew ?_); (first | (refine h.newB (NewC.run _) rfl ?_; intro bn w h) | (refine h.drew.newB (NewC.run _) rfl ?_; intro bn w h))))
    refine h.newS 1 (bs22 _ _ _ _) rfl rfl rfl ?_
    intro u w hul huc _ h
    refine h.app 3 1 ⟨_, rfl, rfl⟩ (h.rd (k := 0) (i := 0) ⟨_, rfl, rfl⟩) one_slice (by simp only [maxLen]; omega) (by omega) ?_
    intro q w hq h
    dsimp only [updG, setO, jg] at h
    have h := h.drop 0
    dsimp only [delO] at h
    repeat (first | (with_reducible refine NilP.mk ?_) | ((with_reducible refine RunN.isLoad ?_); (first | refine h.loadB 0 0 ⟨_, rfl, rfl⟩ rfl rfl ?_ | refine h.loadB 1 0 ⟨_, rfl, rfl⟩ rfl rfl ?_ | refine h.loadB 2 0 ⟨_, rfl, rfl⟩ rfl rfl ?_ | refine h.drew.loadB 0 0 ⟨_, rfl, rfl⟩ rfl rfl ?_ | refine h.drew.loadB 1 0 ⟨_, rfl, rfl⟩ rfl rfl ?_ | refine h.drew.loadB 2 0 ⟨_, rfl, rfl⟩ rfl rfl ?_)) | ((with_reducible refine ReadN.isLoad ?_); (first | refine h.readB 0 0 ⟨_, rfl, rfl⟩ rfl rfl ?_ | refine h.readB 1 0 ⟨_, rfl, rfl⟩ rfl rfl ?_ | refine h.readB 2 0 ⟨_, rfl, rfl⟩ rfl rfl ?_ | refine h.drew.readB 0 0 ⟨_, rfl, rfl⟩ rfl rfl ?_ | refine h.drew.readB 1 0 ⟨_, rfl, rfl⟩ rfl rfl ?_ | refine h.drew.readB 2 0 ⟨_, rfl, rfl⟩ rfl rfl ?_)) | ((with_reducible refine StillV.isLoad ?_); (first | refine ⟨h.stillB 0 0 ⟨_, rfl, rfl⟩ rfl rfl, ?_⟩ | refine ⟨h.stillB 1 0 ⟨_, rfl, rfl⟩ rfl rfl, ?_⟩ | refine ⟨h.stillB 2 0 ⟨_, rfl, rfl⟩ rfl rfl, ?_⟩)) | ((with_reducible refine RunU.isStor ?_); (first | (refine h.storB 0 0 ⟨_, rfl, rfl⟩ rfl rfl rfl ?_; intro w h; dsimp only [updG, setO] at h) | (refine h.storB 1 0 ⟨_, rfl, rfl⟩ rfl rfl rfl ?_; intro w h; dsimp only [updG, setO] at h) | (refine h.storB 2 0 ⟨_, rfl, rfl⟩ rfl rfl rfl ?_; intro w h; dsimp only [updG, setO] at h) | (refine h.drew.storB 0 0 ⟨_, rfl, rfl⟩ rfl rfl rfl ?_; intro w h; dsimp only [updG, setO] at h) | (refine h.drew.storB 1 0 ⟨_, rfl, rfl⟩ rfl rfl rfl ?_; intro w h; dsimp only [updG, setO] at h) | (refine h.drew.storB 2 0 ⟨_, rfl, rfl⟩ rfl rfl rfl ?_; intro w h; dsimp only [updG, setO] at h))) | ((with_reducible refine RunN.isBox ?_); (first | (refine h.newB run_boxA rfl ?_; intro bn w h; try dsimp only at h) | (refine h.drew.newB run_boxA rfl ?_; intro bn w h; try dsimp only at h))) | ((with_reducible refine RunN.isNew ?_); (first | (refine h.newB (NewC.run _) rfl ?_; intro bn w h) | (refine h.drew.newB (NewC.run _) rfl ?_; intro bn w h))))
    rw [hrl]
    refine (sectors_ok (n := b.length) (by omega)).mono ?_
    rintro t w' ⟨hw, rfl⟩
    subst hw
    have h := h.drew
    repeat (first | (with_reducible refine NilP.mk ?_) | ((with_reducible refine RunN.isLoad ?_); (first | refine h.loadB 0 0 ⟨_, rfl, rfl⟩ rfl rfl ?_ | refine h.loadB 1 0 ⟨_, rfl, rfl⟩ rfl rfl ?_ | refine h.loadB 2 0 ⟨_, rfl, rfl⟩ rfl rfl ?_ | refine h.drew.loadB 0 0 ⟨_, rfl, rfl⟩ rfl rfl ?_ | refine h.drew.loadB 1 0 ⟨_, rfl, rfl⟩ rfl rfl ?_ | refine h.drew.loadB 2 0 ⟨_, rfl, rfl⟩ rfl rfl ?_)) | ((with_reducible refine ReadN.isLoad ?_); (first | refine h.readB 0 0 ⟨_, rfl, rfl⟩ rfl rfl ?_ | refine h.readB 1 0 ⟨_, rfl, rfl⟩ rfl rfl ?_ | refine h.readB 2 0 ⟨_, rfl, rfl⟩ rfl rfl ?_ | refine h.drew.readB 0 0 ⟨_, rfl, rfl⟩ rfl rfl ?_ | refine h.drew.readB 1 0 ⟨_, rfl, rfl⟩ rfl rfl ?_ | refine h.drew.readB 2 0 ⟨_, rfl, rfl⟩ rfl rfl ?_)) | ((with_reducible refine StillV.isLoad ?_); (first | refine ⟨h.stillB 0 0 ⟨_, rfl, rfl⟩ rfl rfl, ?_⟩ | refine ⟨h.stillB 1 0 ⟨_, rfl, rfl⟩ rfl rfl, ?_⟩ | refine ⟨h.stillB 2 0 ⟨_, rfl, rfl⟩ rfl rfl, ?_⟩)) | ((with_reducible refine RunU.isStor ?_); (first | (refine h.storB 0 0 ⟨_, rfl, rfl⟩ rfl rfl rfl ?_; intro w h; dsimp only [updG, setO] at h) | (refine h.storB 1 0 ⟨_, rfl, rfl⟩ rfl rfl rfl ?_; intro w h; dsimp only [updG, setO] at h) | (refine h.storB 2 0 ⟨_, rfl, rfl⟩ rfl rfl rfl ?_; intro w h; dsimp only [updG, setO] at h) | (refine h.drew.storB 0 0 ⟨_, rfl, rfl⟩ rfl rfl rfl ?_; intro w h; dsimp only [updG, setO] at h) | (refine h.drew.storB 1 0 ⟨_, rfl, rfl⟩ rfl rfl rfl ?_; intro w h; dsimp only [updG, setO] at h) | (refine h.drew.storB 2 0 ⟨_, rfl, rfl⟩ rfl rfl rfl ?_; intro w h; dsimp only [updG, setO] at h))) | ((with_reducible refine RunN.isBox ?_); (first | (refine h.newB run_boxA rfl ?_; intro bn w h; try dsimp only at h) | (refine h.drew.newB run_boxA rfl ?_; intro bn w h; try dsimp only at h))) | ((with_reducible refine RunN.isNew ?_); (first | (refine h.newB (NewC.run _) rfl ?_; intro bn w h) | (refine h.drew.newB (NewC.run _) rfl ?_; intro bn w h))))
    rw [wr (by omega)] at h
    have h := h.bring 2 rfl
    dsimp only [delO] at h
    have h := h.bring 1 rfl
    dsimp only [delO] at h
    have h := h.into
    have h := h.bring 1 rfl
    dsimp only [delO] at h
    have h2 : St w0 w (dg d :: jg ⟨j.b, q, j.recs ++ [(r, b)], j.next + cnt b.length, j.dead⟩ d.p :: F) := by
      have e : jg ⟨j.b, q, j.recs ++ [(r, b)], j.next + cnt b.length, j.dead⟩ d.p = [Ent.cel j.b 79 [.pointer d.p, .slice q.a q.len q.cap, .int .i64 ((j.next : Int) + (cnt b.length : Int)), .bool j.dead], Ent.row 31 1 q (lsl j.recs ++ [.slice r.a r.len r.cap])] ++ (j.recs.map (brw 5) ++ [brw 5 (r, b)]) := by
        unfold jg jcel
        simp only [lsl_snoc, List.map_append, List.map_cons, List.map_nil, Int.natCast_add, List.cons_append, List.nil_append]
      rw [e]; exact h
    refine hK _ _ ⟨⟨j.b, q, j.recs ++ [(r, b)], j.next + cnt b.length, j.dead⟩, rfl, hd, ?_, h2⟩ ?_
    · rw [List.map_append]
      exact .snoc hs (by rw [List.length_map]; exact hr)
    · have hcell2 := cellN_of h2 (k := 1) (i := 0) ⟨_, rfl, rfl⟩ (m := 2) (n := j.next + cnt b.length) rfl
      dsimp only at hcell2 ⊢
      rw [hcell, hcell2]; omega
  · dsimp only at hrb h ⊢
    subst hrb
    rw [SplitB_iff]
    refine ⟨fun _ => ?_, fun hz => by cases hz⟩
    exact ⟨j, rfl, hd, jok, ⟨hs, by rw [List.length_map]; exact hr⟩, h⟩

theorem len_st (h : St w0 w (dg d :: jg j d.p :: F)) : CallK Try.prog (.int .i64) 40 #[.pointer j.p] w fun (r : Int) w' => r = (if j.dead then 0 else (j.recs.length : Int)) ∧ St w0 w' (dg d :: jg j d.p :: F) := by
  have hjl := jg_len h (k := 1) rfl
  refine T40.calls ?_
  unfold T40
  repeat (first | (with_reducible refine NilP.mk ?_) | ((with_reducible refine RunN.isLoad ?_); (first | refine h.loadB 0 0 ⟨_, rfl, rfl⟩ rfl rfl ?_ | refine h.loadB 1 0 ⟨_, rfl, rfl⟩ rfl rfl ?_ | refine h.drew.loadB 0 0 ⟨_, rfl, rfl⟩ rfl rfl ?_ | refine h.drew.loadB 1 0 ⟨_, rfl, rfl⟩ rfl rfl ?_)) | ((with_reducible refine ReadN.isLoad ?_); (first | refine h.readB 0 0 ⟨_, rfl, rfl⟩ rfl rfl ?_ | refine h.readB 1 0 ⟨_, rfl, rfl⟩ rfl rfl ?_ | refine h.drew.readB 0 0 ⟨_, rfl, rfl⟩ rfl rfl ?_ | refine h.drew.readB 1 0 ⟨_, rfl, rfl⟩ rfl rfl ?_)) | ((with_reducible refine StillV.isLoad ?_); (first | refine ⟨h.stillB 0 0 ⟨_, rfl, rfl⟩ rfl rfl, ?_⟩ | refine ⟨h.stillB 1 0 ⟨_, rfl, rfl⟩ rfl rfl, ?_⟩)) | ((with_reducible refine RunU.isStor ?_); (first | (refine h.storB 0 0 ⟨_, rfl, rfl⟩ rfl rfl rfl ?_; intro w h; dsimp only [updG, setO] at h) | (refine h.storB 1 0 ⟨_, rfl, rfl⟩ rfl rfl rfl ?_; intro w h; dsimp only [updG, setO] at h) | (refine h.drew.storB 0 0 ⟨_, rfl, rfl⟩ rfl rfl rfl ?_; intro w h; dsimp only [updG, setO] at h) | (refine h.drew.storB 1 0 ⟨_, rfl, rfl⟩ rfl rfl rfl ?_; intro w h; dsimp only [updG, setO] at h))) | ((with_reducible refine RunN.isBox ?_); (first | (refine h.newB run_boxA rfl ?_; intro bn w h; try dsimp only at h) | (refine h.drew.newB run_boxA rfl ?_; intro bn w h; try dsimp only at h))) | ((with_reducible refine RunN.isNew ?_); (first | (refine h.newB (NewC.run _) rfl ?_; intro bn w h) | (refine h.drew.newB (NewC.run _) rfl ?_; intro bn w h))))
  rw [SplitB_iff]
  refine ⟨fun hz => ⟨by rw [hz]; rfl, h⟩, fun hz => ?_⟩
  repeat (first | (with_reducible refine NilP.mk ?_) | ((with_reducible refine RunN.isLoad ?_); (first | refine h.loadB 0 0 ⟨_, rfl, rfl⟩ rfl rfl ?_ | refine h.loadB 1 0 ⟨_, rfl, rfl⟩ rfl rfl ?_ | refine h.drew.loadB 0 0 ⟨_, rfl, rfl⟩ rfl rfl ?_ | refine h.drew.loadB 1 0 ⟨_, rfl, rfl⟩ rfl rfl ?_)) | ((with_reducible refine ReadN.isLoad ?_); (first | refine h.readB 0 0 ⟨_, rfl, rfl⟩ rfl rfl ?_ | refine h.readB 1 0 ⟨_, rfl, rfl⟩ rfl rfl ?_ | refine h.drew.readB 0 0 ⟨_, rfl, rfl⟩ rfl rfl ?_ | refine h.drew.readB 1 0 ⟨_, rfl, rfl⟩ rfl rfl ?_)) | ((with_reducible refine StillV.isLoad ?_); (first | refine ⟨h.stillB 0 0 ⟨_, rfl, rfl⟩ rfl rfl, ?_⟩ | refine ⟨h.stillB 1 0 ⟨_, rfl, rfl⟩ rfl rfl, ?_⟩)) | ((with_reducible refine RunU.isStor ?_); (first | (refine h.storB 0 0 ⟨_, rfl, rfl⟩ rfl rfl rfl ?_; intro w h; dsimp only [updG, setO] at h) | (refine h.storB 1 0 ⟨_, rfl, rfl⟩ rfl rfl rfl ?_; intro w h; dsimp only [updG, setO] at h) | (refine h.drew.storB 0 0 ⟨_, rfl, rfl⟩ rfl rfl rfl ?_; intro w h; dsimp only [updG, setO] at h) | (refine h.drew.storB 1 0 ⟨_, rfl, rfl⟩ rfl rfl rfl ?_; intro w h; dsimp only [updG, setO] at h))) | ((with_reducible refine RunN.isBox ?_); (first | (refine h.newB run_boxA rfl ?_; intro bn w h; try dsimp only at h) | (refine h.drew.newB run_boxA rfl ?_; intro bn w h; try dsimp only at h))) | ((with_reducible refine RunN.isNew ?_); (first | (refine h.newB (NewC.run _) rfl ?_; intro bn w h) | (refine h.drew.newB (NewC.run _) rfl ?_; intro bn w h))))
  exact ⟨by rw [hz, hjl]; rfl, h⟩
theorem room_st (h : St w0 w (dg d :: jg j d.p :: F)) (ok : DOk d) (jok : JOk j d) : CallK Try.prog (.int .i64) 15 #[.pointer j.p] w fun (r : Int) w' => r = (if j.dead then 0 else (d.secs.length : Int) - j.next) ∧ St w0 w' (dg d :: jg j d.p :: F) := by
  have hsm := ok.small
  have hjn := jok.next
  refine T15.calls ?_
  unfold T15
  repeat (first | (with_reducible refine NilP.mk ?_) | ((with_reducible refine RunN.isLoad ?_); (first | refine h.loadB 0 0 ⟨_, rfl, rfl⟩ rfl rfl ?_ | refine h.loadB 1 0 ⟨_, rfl, rfl⟩ rfl rfl ?_ | refine h.drew.loadB 0 0 ⟨_, rfl, rfl⟩ rfl rfl ?_ | refine h.drew.loadB 1 0 ⟨_, rfl, rfl⟩ rfl rfl ?_)) | ((with_reducible refine ReadN.isLoad ?_); (first | refine h.readB 0 0 ⟨_, rfl, rfl⟩ rfl rfl ?_ | refine h.readB 1 0 ⟨_, rfl, rfl⟩ rfl rfl ?_ | refine h.drew.readB 0 0 ⟨_, rfl, rfl⟩ rfl rfl ?_ | refine h.drew.readB 1 0 ⟨_, rfl, rfl⟩ rfl rfl ?_)) | ((with_reducible refine StillV.isLoad ?_); (first | refine ⟨h.stillB 0 0 ⟨_, rfl, rfl⟩ rfl rfl, ?_⟩ | refine ⟨h.stillB 1 0 ⟨_, rfl, rfl⟩ rfl rfl, ?_⟩)) | ((with_reducible refine RunU.isStor ?_); (first | (refine h.storB 0 0 ⟨_, rfl, rfl⟩ rfl rfl rfl ?_; intro w h; dsimp only [updG, setO] at h) | (refine h.storB 1 0 ⟨_, rfl, rfl⟩ rfl rfl rfl ?_; intro w h; dsimp only [updG, setO] at h) | (refine h.drew.storB 0 0 ⟨_, rfl, rfl⟩ rfl rfl rfl ?_; intro w h; dsimp only [updG, setO] at h) | (refine h.drew.storB 1 0 ⟨_, rfl, rfl⟩ rfl rfl rfl ?_; intro w h; dsimp only [updG, setO] at h))) | ((with_reducible refine RunN.isBox ?_); (first | (refine h.newB run_boxA rfl ?_; intro bn w h; try dsimp only at h) | (refine h.drew.newB run_boxA rfl ?_; intro bn w h; try dsimp only at h))) | ((with_reducible refine RunN.isNew ?_); (first | (refine h.newB (NewC.run _) rfl ?_; intro bn w h) | (refine h.drew.newB (NewC.run _) rfl ?_; intro bn w h))))
  rw [SplitB_iff]
  refine ⟨fun hz => ⟨by rw [hz]; rfl, h⟩, fun hz => ?_⟩
  repeat (first | (with_reducible refine NilP.mk ?_) | ((with_reducible refine RunN.isLoad ?_); (first | refine h.loadB 0 0 ⟨_, rfl, rfl⟩ rfl rfl ?_ | refine h.loadB 1 0 ⟨_, rfl, rfl⟩ rfl rfl ?_ | refine h.drew.loadB 0 0 ⟨_, rfl, rfl⟩ rfl rfl ?_ | refine h.drew.loadB 1 0 ⟨_, rfl, rfl⟩ rfl rfl ?_)) | ((with_reducible refine ReadN.isLoad ?_); (first | refine h.readB 0 0 ⟨_, rfl, rfl⟩ rfl rfl ?_ | refine h.readB 1 0 ⟨_, rfl, rfl⟩ rfl rfl ?_ | refine h.drew.readB 0 0 ⟨_, rfl, rfl⟩ rfl rfl ?_ | refine h.drew.readB 1 0 ⟨_, rfl, rfl⟩ rfl rfl ?_)) | ((with_reducible refine StillV.isLoad ?_); (first | refine ⟨h.stillB 0 0 ⟨_, rfl, rfl⟩ rfl rfl, ?_⟩ | refine ⟨h.stillB 1 0 ⟨_, rfl, rfl⟩ rfl rfl, ?_⟩)) | ((with_reducible refine RunU.isStor ?_); (first | (refine h.storB 0 0 ⟨_, rfl, rfl⟩ rfl rfl rfl ?_; intro w h; dsimp only [updG, setO] at h) | (refine h.storB 1 0 ⟨_, rfl, rfl⟩ rfl rfl rfl ?_; intro w h; dsimp only [updG, setO] at h) | (refine h.drew.storB 0 0 ⟨_, rfl, rfl⟩ rfl rfl rfl ?_; intro w h; dsimp only [updG, setO] at h) | (refine h.drew.storB 1 0 ⟨_, rfl, rfl⟩ rfl rfl rfl ?_; intro w h; dsimp only [updG, setO] at h))) | ((with_reducible refine RunN.isBox ?_); (first | (refine h.newB run_boxA rfl ?_; intro bn w h; try dsimp only at h) | (refine h.drew.newB run_boxA rfl ?_; intro bn w h; try dsimp only at h))) | ((with_reducible refine RunN.isNew ?_); (first | (refine h.newB (NewC.run _) rfl ?_; intro bn w h) | (refine h.drew.newB (NewC.run _) rfl ?_; intro bn w h))))
  refine (sectors_st h.drew).mono ?_
  rintro r w ⟨rfl, h⟩
  repeat (first | (with_reducible refine NilP.mk ?_) | ((with_reducible refine RunN.isLoad ?_); (first | refine h.loadB 0 0 ⟨_, rfl, rfl⟩ rfl rfl ?_ | refine h.loadB 1 0 ⟨_, rfl, rfl⟩ rfl rfl ?_ | refine h.drew.loadB 0 0 ⟨_, rfl, rfl⟩ rfl rfl ?_ | refine h.drew.loadB 1 0 ⟨_, rfl, rfl⟩ rfl rfl ?_)) | ((with_reducible refine ReadN.isLoad ?_); (first | refine h.readB 0 0 ⟨_, rfl, rfl⟩ rfl rfl ?_ | refine h.readB 1 0 ⟨_, rfl, rfl⟩ rfl rfl ?_ | refine h.drew.readB 0 0 ⟨_, rfl, rfl⟩ rfl rfl ?_ | refine h.drew.readB 1 0 ⟨_, rfl, rfl⟩ rfl rfl ?_)) | ((with_reducible refine StillV.isLoad ?_); (first | refine ⟨h.stillB 0 0 ⟨_, rfl, rfl⟩ rfl rfl, ?_⟩ | refine ⟨h.stillB 1 0 ⟨_, rfl, rfl⟩ rfl rfl, ?_⟩)) | ((with_reducible refine RunU.isStor ?_); (first | (refine h.storB 0 0 ⟨_, rfl, rfl⟩ rfl rfl rfl ?_; intro w h; dsimp only [updG, setO] at h) | (refine h.storB 1 0 ⟨_, rfl, rfl⟩ rfl rfl rfl ?_; intro w h; dsimp only [updG, setO] at h) | (refine h.drew.storB 0 0 ⟨_, rfl, rfl⟩ rfl rfl rfl ?_; intro w h; dsimp only [updG, setO] at h) | (refine h.drew.storB 1 0 ⟨_, rfl, rfl⟩ rfl rfl rfl ?_; intro w h; dsimp only [updG, setO] at h))) | ((with_reducible refine RunN.isBox ?_); (first | (refine h.newB run_boxA rfl ?_; intro bn w h; try dsimp only at h) | (refine h.drew.newB run_boxA rfl ?_; intro bn w h; try dsimp only at h))) | ((with_reducible refine RunN.isNew ?_); (first | (refine h.newB (NewC.run _) rfl ?_; intro bn w h) | (refine h.drew.newB (NewC.run _) rfl ?_; intro bn w h))))
  refine ⟨?_, h⟩
  rw [hz, wr (by omega)]; rfl
theorem at_st (h : St w0 w (dg d :: jg j d.p :: F)) (jok : JOk j d) {i : Nat} (hi : i < j.recs.length) (hd : j.dead = false) : CallK Try.prog (.tup (.cons .sl (.cons (.int .i64) .nilT))) 41 #[.pointer j.p, .int .i64 (i : Int)] w fun (r : Sl × Int × Unit) w' =>
    r.2.1 = 0 ∧ r.1.len = j.recs[i].2.length ∧ St w0 w' ([.row 5 1 r.1 (bys j.recs[i].2)] :: dg d :: jg j d.p :: F) := by
  have hjl := jg_len h (k := 1) rfl
  have hl8 := jok.len _ (List.getElem_mem hi)
  refine T41.calls ?_
  unfold T41
  refine JoinX.mk (fun jv w' => jv.1 = false ∧ St w0 w' (dg d :: jg j d.p :: F)) ?_ ?_
  · rintro ⟨_, ⟨⟩⟩ w ⟨hj, h⟩
    dsimp only at hj h ⊢
    subst hj
    rw [SplitB_iff]
    refine ⟨(fun hz => by cases hz), fun _ => ?_⟩
    repeat (first | (with_reducible refine NilP.mk ?_) | ((with_reducible refine RunN.isLoad ?_); (first | refine h.loadB 0 0 ⟨_, rfl, rfl⟩ rfl rfl ?_ | refine h.loadB 1 0 ⟨_, rfl, rfl⟩ rfl rfl ?_ | refine h.drew.loadB 0 0 ⟨_, rfl, rfl⟩ rfl rfl ?_ | refine h.drew.loadB 1 0 ⟨_, rfl, rfl⟩ rfl rfl ?_)) | ((with_reducible refine ReadN.isLoad ?_); (first | refine h.readB 0 0 ⟨_, rfl, rfl⟩ rfl rfl ?_ | refine h.readB 1 0 ⟨_, rfl, rfl⟩ rfl rfl ?_ | refine h.drew.readB 0 0 ⟨_, rfl, rfl⟩ rfl rfl ?_ | refine h.drew.readB 1 0 ⟨_, rfl, rfl⟩ rfl rfl ?_)) | ((with_reducible refine StillV.isLoad ?_); (first | refine ⟨h.stillB 0 0 ⟨_, rfl, rfl⟩ rfl rfl, ?_⟩ | refine ⟨h.stillB 1 0 ⟨_, rfl, rfl⟩ rfl rfl, ?_⟩)) | ((with_reducible refine RunU.isStor ?_); (first | (refine h.storB 0 0 ⟨_, rfl, rfl⟩ rfl rfl rfl ?_; intro w h; dsimp only [updG, setO] at h) | (refine h.storB 1 0 ⟨_, rfl, rfl⟩ rfl rfl rfl ?_; intro w h; dsimp only [updG, setO] at h) | (refine h.drew.storB 0 0 ⟨_, rfl, rfl⟩ rfl rfl rfl ?_; intro w h; dsimp only [updG, setO] at h) | (refine h.drew.storB 1 0 ⟨_, rfl, rfl⟩ rfl rfl rfl ?_; intro w h; dsimp only [updG, setO] at h))) | ((with_reducible refine RunN.isBox ?_); (first | (refine h.newB run_boxA rfl ?_; intro bn w h; try dsimp only at h) | (refine h.drew.newB run_boxA rfl ?_; intro bn w h; try dsimp only at h))) | ((with_reducible refine RunN.isNew ?_); (first | (refine h.newB (NewC.run _) rfl ?_; intro bn w h) | (refine h.drew.newB (NewC.run _) rfl ?_; intro bn w h))))
    refine (h.rd (k := 1) (i := 1) ⟨_, rfl, rfl⟩).idxK i rfl (by omega) ?_
    intro b o hb
    refine (h.rd (k := 1) (i := 1) ⟨_, rfl, rfl⟩).el hb (i * 1) rfl (kd := .sl) (x := j.recs[i].1) (by rw [Nat.mul_one, lsl_at hi]; rfl) ?_
    have hr := h.rd (k := 1) (i := i + 2) (E := 5) ⟨_, rfl, brw_at hi⟩
    have hrl := hr.bys_len
    refine h.appNil (e := 5) hr (bys_one _) (by simp only [maxLen]; omega) (by omega) ?_
    intro s w hs h
    exact ⟨rfl, by omega, h⟩
  · intro k hk
    rw [SplitB_iff]
    refine ⟨fun hy => ?_, fun hy => ?_⟩
    · have := of_decide_eq_true hy; omega
    · refine (len_st h).mono ?_
      rintro r w ⟨rfl, h⟩
      refine hk _ _ ⟨?_, h⟩
      dsimp only
      rw [hd]
      exact decide_eq_false (by simp; omega)
theorem at_err (h : St w0 w (dg d :: jg j d.p :: F)) {i : Int} (hi : i < 0 ∨ (if j.dead then 0 else (j.recs.length : Int)) ≤ i) : CallK Try.prog (.tup (.cons .sl (.cons (.int .i64) .nilT))) 41 #[.pointer j.p, .int .i64 i] w fun (r : Sl × Int × Unit) w' =>
    r = (⟨none, 0, 0⟩, 1, ()) ∧ St w0 w' (dg d :: jg j d.p :: F) := by
  refine T41.calls ?_
  unfold T41
  refine JoinX.mk (fun jv w' => jv.1 = true ∧ St w0 w' (dg d :: jg j d.p :: F)) ?_ ?_
  · rintro ⟨_, ⟨⟩⟩ w ⟨hj, h⟩
    dsimp only at hj h ⊢
    subst hj
    rw [SplitB_iff]
    exact ⟨fun _ => ⟨rfl, h⟩, fun hz => by cases hz⟩
  · intro k hk
    rw [SplitB_iff]
    refine ⟨fun hy => ?_, fun hy => ?_⟩
    · exact hk _ _ ⟨rfl, h⟩
    · have hy := of_decide_eq_false hy
      refine (len_st h).mono ?_
      rintro r w ⟨rfl, h⟩
      refine hk _ _ ⟨?_, h⟩
      dsimp only
      refine decide_eq_true ?_
      rcases hi with h | h
      · omega
      · exact h
end Go.Proofs.Ytimebochhbfkgaa
