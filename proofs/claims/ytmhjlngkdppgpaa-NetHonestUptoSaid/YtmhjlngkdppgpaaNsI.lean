/- A call of the script, on both bags. -/
import Derived.Test.YtmhjlngkdppgpaaNsH
namespace Go.Proofs.Ytmhjlngkdppgpaa
open Go Go.Fw Go.RowKit
set_option linter.unusedVariables false
set_option linter.unusedSimpArgs false
set_option maxRecDepth 4000
set_option maxHeartbeats 4000000
variable {w0 w : World} {F : Grps} {p : Pr} {n : Nat} {q q' : Sl} {m : List UInt8}

theorem Pr.Ok.at {p : Pr} {n : Nat} (ok : p.Ok n) {i : Nat} (hi : i < p.xB.length) (hj : i < p.xR.length) : p.xB[i].1 = p.xR[i].1 := by
  have h1 : (p.xB.map (·.1))[i]? = some p.xB[i].1 := by simp [hi]
  rw [ok.same] at h1
  simpa [hj] using h1.symm
theorem Pr.Ok.bigB {p : Pr} {n : Nat} (ok : p.Ok n) : ∀ x ∈ p.xB, x.1.m.length ≤ big := fun x hx => Nat.le_trans (ok.lens x hx) (by decide)
theorem Pr.Ok.bigR {p : Pr} {n : Nat} (ok : p.Ok n) : ∀ x ∈ p.xR, x.1.m.length ≤ big := fun x hx => Nat.le_trans (ok.lensR x hx) (by decide)
/-- What a bag holds, apart from where. -/
def contS (xs : List (Ltr × Sl)) : List Ltr := xs.map (·.1)
theorem contS_erase (xs : List (Ltr × Sl)) (a : Nat) : contS (xs.eraseIdx a) = (contS xs).eraseIdx a := by
  unfold contS; rw [List.eraseIdx_eq_take_drop_succ, List.eraseIdx_eq_take_drop_succ]; simp [List.map_take, List.map_drop]
theorem contS_insert (xs : List (Ltr × Sl)) (b : Nat) (x : Ltr × Sl) (hb : b ≤ xs.length) : contS (xs.insertIdx b x) = (contS xs).insertIdx b x.1 := by
  unfold contS
  rw [insertIdx_td _ _ _ hb, insertIdx_td _ _ _ (by simpa using hb)]
  simp [List.map_take, List.map_drop]

theorem map_erase (xs : List (Ltr × Sl)) (i : Nat) : (xs.eraseIdx i).map (·.1) = (xs.map (·.1)).eraseIdx i := contS_erase xs i
theorem Pr.Ok.erase {p : Pr} {n : Nat} (ok : p.Ok n) {i : Nat} (hi : i < p.xB.length) {s s' : Sl} : ({ p with sB := s, xB := p.xB.eraseIdx i, sR := s', xR := p.xR.eraseIdx i } : Pr).Ok n := by
  have hl := List.length_eraseIdx_of_lt hi
  have := ok.fit
  exact { ok with same := by dsimp only; rw [map_erase, map_erase, ok.same], fit := by dsimp only; omega, lens := fun x hx => ok.lens x (List.mem_of_mem_eraseIdx hx) }

/-- After the program's bag has answered. -/
def Told1 (p p1 : Pr) (i f t : Int) (m : List UInt8) (e : Int) (gone : Bool) : Prop :=
  (∃ n, ∃ hn : n < p.xB.length, i = (n : Int) ∧ f = p.xB[n].1.f ∧ t = p.xB[n].1.t ∧ m = p.xB[n].1.m ∧ e = 0 ∧ ∃ s, p1 = { p with sB := s, xB := if gone then p.xB.eraseIdx n else p.xB }) ∨
  (¬ (0 ≤ i ∧ i < (p.xB.length : Int)) ∧ f = 0 ∧ t = 0 ∧ m = [] ∧ e = 40 ∧ p1 = p)
/-- After the document's own has. -/
def Told2 (p p1 : Pr) (i f t : Int) (m : List UInt8) (e : Int) (gone : Bool) : Prop :=
  (∃ n, ∃ hn : n < p.xR.length, i = (n : Int) ∧ f = p.xR[n].1.f ∧ t = p.xR[n].1.t ∧ m = p.xR[n].1.m ∧ e = 0 ∧ ∃ s, p1 = { p with sR := s, xR := if gone then p.xR.eraseIdx n else p.xR }) ∨
  (¬ (0 ≤ i ∧ i < (p.xR.length : Int)) ∧ f = 0 ∧ t = 0 ∧ m = [] ∧ e = 40 ∧ p1 = p)
theorem told_both {p p1 p2 : Pr} {n : Nat} (ok : p.Ok n) {i f t f' t' : Int} {m m' : List UInt8} {e e' : Int} {gone : Bool} (h1 : Told1 p p1 i f t m e gone) (h2 : Told2 p1 p2 i f' t' m' e' gone) :
    f' = f ∧ t' = t ∧ m' = m ∧ e' = e ∧ m.length ≤ mega ∧ p2.Q = p.Q ∧ p2.cap = p.cap ∧ p2.Ok n := by
  have hl := ok.len
  rcases h1 with ⟨a, ha, rfl, rfl, rfl, rfl, rfl, s, rfl⟩ | ⟨hn, rfl, rfl, rfl, rfl, rfl⟩
  · rcases h2 with ⟨b, hb, hab, rfl, rfl, rfl, rfl, s', rfl⟩ | ⟨hn, rfl, rfl, rfl, rfl, rfl⟩
    · dsimp only at hb
      have : a = b := by omega
      subst this
      have he := ok.at ha hb
      dsimp only
      rw [← he]
      refine ⟨rfl, rfl, rfl, rfl, ok.lens _ (List.getElem_mem _), rfl, rfl, ?_⟩
      cases gone
      · exact { ok with }
      · exact ok.erase ha
    · dsimp only at hn; omega
  · rcases h2 with ⟨b, hb, hab, rfl, rfl, rfl, rfl, s', rfl⟩ | ⟨_, rfl, rfl, rfl, rfl, rfl⟩
    · omega
    · exact ⟨rfl, rfl, rfl, rfl, by simp, rfl, rfl, ok⟩

theorem deliverP {c3 : List Ent} (h : St w0 w (c3 :: p.gs F)) (ok : p.Ok n) {i : Int} :
    CallK Try.prog (.tup (.cons KL (.cons (.int .i64) .nilT))) 13 #[.pointer (some ⟨p.B, 0, none⟩), .int .i64 i] w fun (r : (Int × Int × Sl × Unit) × Int × Unit) w' =>
      ∃ f t q m e p1, r = ((f, t, q, ()), e, ()) ∧ Told1 p p1 i f t m e true ∧ St w0 w' ([.row 5 1 q (bys m)] :: c3 :: p1.gs F) := by
  refine (deliver_st (h.bring 2 rfl) ok.small (i := i)).mono ?_
  rintro r w (⟨a, ha, rfl, rfl, s', h⟩ | ⟨hn, rfl, h⟩)
  · exact ⟨_, _, _, _, _, _, rfl, .inl ⟨a, ha, rfl, rfl, rfl, rfl, rfl, s', rfl⟩, (h.bring 1 rfl).back 3⟩
  · exact ⟨_, _, _, _, _, _, rfl, .inr ⟨hn, rfl, rfl, rfl, rfl, rfl⟩, (h.back 2).nilrow 5 1⟩
theorem atP {c3 : List Ent} (h : St w0 w (c3 :: p.gs F)) (ok : p.Ok n) {i : Int} :
    CallK Try.prog (.tup (.cons KL (.cons (.int .i64) .nilT))) 16 #[.pointer (some ⟨p.B, 0, none⟩), .int .i64 i] w fun (r : (Int × Int × Sl × Unit) × Int × Unit) w' =>
      ∃ f t q m e p1, r = ((f, t, q, ()), e, ()) ∧ Told1 p p1 i f t m e false ∧ St w0 w' ([.row 5 1 q (bys m)] :: c3 :: p1.gs F) := by
  refine (at_st (h.bring 2 rfl) ok.small ok.bigB (i := i)).mono ?_
  rintro r w (⟨a, ha, rfl, q, rfl, h⟩ | ⟨hn, rfl, h⟩)
  · exact ⟨_, _, _, _, _, p, rfl, .inl ⟨a, ha, rfl, rfl, rfl, rfl, rfl, p.sB, rfl⟩, (h.bring 1 rfl).back 3⟩
  · exact ⟨_, _, _, _, _, _, rfl, .inr ⟨hn, rfl, rfl, rfl, rfl, rfl⟩, (h.back 2).nilrow 5 1⟩
theorem rdeliverP {cq c3 : List Ent} (h : St w0 w (cq :: c3 :: p.gs F)) (hl : p.xR.length ≤ 65536) (hm : ∀ x ∈ p.xR, x.1.m.length ≤ big) {i : Int} :
    CallK Try.prog (.tup (.cons KL (.cons (.int .i64) .nilT))) 33 #[.pointer (some ⟨p.R, 0, none⟩), .int .i64 i] w fun (r : (Int × Int × Sl × Unit) × Int × Unit) w' =>
      ∃ f t q m e p1, r = ((f, t, q, ()), e, ()) ∧ Told2 p p1 i f t m e true ∧ St w0 w' ([.row 5 1 q (bys m)] :: cq :: c3 :: p1.gs F) := by
  refine (rdeliver_st (h.bring 4 rfl) hl hm (i := i)).mono ?_
  rintro r w (⟨a, ha, rfl, q, s', rfl, h⟩ | ⟨hn, rfl, h⟩)
  · exact ⟨_, _, _, _, _, _, rfl, .inl ⟨a, ha, rfl, rfl, rfl, rfl, rfl, s', rfl⟩, (h.bring 1 rfl).back 5⟩
  · exact ⟨_, _, _, _, _, _, rfl, .inr ⟨hn, rfl, rfl, rfl, rfl, rfl⟩, (h.back 4).nilrow 5 1⟩
theorem ratP {cq c3 : List Ent} (h : St w0 w (cq :: c3 :: p.gs F)) (hl : p.xR.length ≤ 65536) (hm : ∀ x ∈ p.xR, x.1.m.length ≤ big) {i : Int} :
    CallK Try.prog (.tup (.cons KL (.cons (.int .i64) .nilT))) 38 #[.pointer (some ⟨p.R, 0, none⟩), .int .i64 i] w fun (r : (Int × Int × Sl × Unit) × Int × Unit) w' =>
      ∃ f t q m e p1, r = ((f, t, q, ()), e, ()) ∧ Told2 p p1 i f t m e false ∧ St w0 w' ([.row 5 1 q (bys m)] :: cq :: c3 :: p1.gs F) := by
  refine (rat_st (h.bring 4 rfl) hl hm (i := i)).mono ?_
  rintro r w (⟨a, ha, rfl, q, rfl, h⟩ | ⟨hn, rfl, h⟩)
  · exact ⟨_, _, _, _, _, p, rfl, .inl ⟨a, ha, rfl, rfl, rfl, rfl, rfl, p.sR, rfl⟩, (h.bring 1 rfl).back 5⟩
  · exact ⟨_, _, _, _, _, _, rfl, .inr ⟨hn, rfl, rfl, rfl, rfl, rfl⟩, (h.back 4).nilrow 5 1⟩
theorem told1_R {p p1 : Pr} {n : Nat} (ok : p.Ok n) {i f t : Int} {m : List UInt8} {e : Int} {gone : Bool} (h : Told1 p p1 i f t m e gone) : p1.Q = p.Q ∧ p1.xR.length ≤ 65536 ∧ ∀ x ∈ p1.xR, x.1.m.length ≤ big := by
  have h1 := ok.len
  have h2 := ok.small
  have e : p1.xR = p.xR ∧ p1.Q = p.Q := by
    rcases h with ⟨a, ha, _, _, _, _, _, s, rfl⟩ | ⟨_, _, _, _, _, rfl⟩ <;> exact ⟨rfl, rfl⟩
  rw [e.1]
  exact ⟨e.2, by omega, ok.bigR⟩


theorem plays_st (h : St w0 w (p.gs F)) (ok : p.Ok n) (hn : n ≤ 1000000) {kk wh i j f0 t0 : Int} {d : Sl} {m0 : List UInt8} (hd : Sees w0 F d 1 (bys m0)) (hm0 : m0.length ≤ mega) :
    CallK Try.prog .bool 21 #[.pointer (some ⟨p.Q, 0, none⟩), .agg #[.int .i64 kk, .int .i64 wh, .int .i64 i, .int .i64 j, .int .i64 f0, .int .i64 t0, .slice d.a d.len d.cap]] w fun (r : Bool) w' =>
      r = true ∧ ∃ p' : Pr, p'.Q = p.Q ∧ p'.cap = p.cap ∧ p'.Ok (n + 1) ∧ St w0 w' (p'.gs F) := by
  refine T21.calls (p1 := (kk, wh, i, j, f0, t0, d, ())) ?_
  unfold T21
  first | refine h.newB run_boxA rfl ?_ | refine h.drew.newB run_boxA rfl ?_
  intro t3 w h
  try dsimp only at h
  repeat (first | (with_reducible refine NilP.mk ?_) | ((with_reducible refine RunN.isLoad ?_); (first | refine h.loadB 0 0 ⟨_, rfl, rfl⟩ rfl rfl ?_ | refine h.drew.loadB 0 0 ⟨_, rfl, rfl⟩ rfl rfl ?_)) | ((with_reducible refine ReadN.isLoad ?_); (first | refine h.readB 0 0 ⟨_, rfl, rfl⟩ rfl rfl ?_ | refine h.drew.readB 0 0 ⟨_, rfl, rfl⟩ rfl rfl ?_)) | ((with_reducible refine StillV.isLoad ?_); (first | refine ⟨h.stillB 0 0 ⟨_, rfl, rfl⟩ rfl rfl, ?_⟩)) | ((with_reducible refine RunU.isStor ?_); (first | (refine h.storB 0 0 ⟨_, rfl, rfl⟩ rfl rfl rfl ?_; intro w h; dsimp only [updG, setO] at h) | (refine h.drew.storB 0 0 ⟨_, rfl, rfl⟩ rfl rfl rfl ?_; intro w h; dsimp only [updG, setO] at h))) | ((with_reducible refine RunN.isBox ?_); (first | (refine h.newB run_boxA rfl ?_; intro bn w h; try dsimp only at h) | (refine h.drew.newB run_boxA rfl ?_; intro bn w h; try dsimp only at h))) | ((with_reducible refine RunN.isNew ?_); (first | (refine h.newB (NewC.run _) rfl ?_; intro bn w h) | (refine h.drew.newB (NewC.run _) rfl ?_; intro bn w h))))
  rw [SplitB_iff]
  refine ⟨fun h1 => ?_, fun h1 => ?_⟩
  · refine h.loadA 0 0 ⟨_, rfl, rfl⟩ rfl (f0, t0, d, ()) (hk := ?_)
    refine (sends_st (h.drop 0) ok hd hm0).mono ?_
    rintro r w ⟨rfl, p', a, b, c, h⟩
    exact ⟨rfl, p', a, b, c.mono (by omega), h⟩
  · skip
    rw [SplitB_iff]
    refine ⟨fun h2 => ?_, fun h2 => ?_⟩
    · skip
      refine ⟨?_, ?_⟩
      · skip
        repeat (first | (with_reducible refine NilP.mk ?_) | ((with_reducible refine RunN.isLoad ?_); (first | refine h.loadB 0 0 ⟨_, rfl, rfl⟩ rfl rfl ?_ | refine h.loadB 1 0 ⟨_, rfl, rfl⟩ rfl rfl ?_ | refine h.drew.loadB 0 0 ⟨_, rfl, rfl⟩ rfl rfl ?_ | refine h.drew.loadB 1 0 ⟨_, rfl, rfl⟩ rfl rfl ?_)) | ((with_reducible refine ReadN.isLoad ?_); (first | refine h.readB 0 0 ⟨_, rfl, rfl⟩ rfl rfl ?_ | refine h.readB 1 0 ⟨_, rfl, rfl⟩ rfl rfl ?_ | refine h.drew.readB 0 0 ⟨_, rfl, rfl⟩ rfl rfl ?_ | refine h.drew.readB 1 0 ⟨_, rfl, rfl⟩ rfl rfl ?_)) | ((with_reducible refine StillV.isLoad ?_); (first | refine ⟨h.stillB 0 0 ⟨_, rfl, rfl⟩ rfl rfl, ?_⟩ | refine ⟨h.stillB 1 0 ⟨_, rfl, rfl⟩ rfl rfl, ?_⟩)) | ((with_reducible refine RunU.isStor ?_); (first | (refine h.storB 0 0 ⟨_, rfl, rfl⟩ rfl rfl rfl ?_; intro w h; dsimp only [updG, setO] at h) | (refine h.storB 1 0 ⟨_, rfl, rfl⟩ rfl rfl rfl ?_; intro w h; dsimp only [updG, setO] at h) | (refine h.drew.storB 0 0 ⟨_, rfl, rfl⟩ rfl rfl rfl ?_; intro w h; dsimp only [updG, setO] at h) | (refine h.drew.storB 1 0 ⟨_, rfl, rfl⟩ rfl rfl rfl ?_; intro w h; dsimp only [updG, setO] at h))) | ((with_reducible refine RunN.isBox ?_); (first | (refine h.newB run_boxA rfl ?_; intro bn w h; try dsimp only at h) | (refine h.drew.newB run_boxA rfl ?_; intro bn w h; try dsimp only at h))) | ((with_reducible refine RunN.isNew ?_); (first | (refine h.newB (NewC.run _) rfl ?_; intro bn w h) | (refine h.drew.newB (NewC.run _) rfl ?_; intro bn w h))))
        refine (deliverP h.drew ok (i := i)).mono ?_
        rintro r w ⟨f, t, q, m, e, p1, rfl, ht1, h⟩
        first | refine h.newB (NewC.run _) rfl ?_ | refine h.drew.newB (NewC.run _) rfl ?_
        intro t5 w h
        try dsimp only at h
        have h := h.back 12
        dsimp only [insO] at h
        refine h.storA 12 0 ⟨_, rfl, rfl⟩ rfl (hk := ?_)
        intro w h
        dsimp only [updG, setO] at h
        simp only [List.take_zero, List.drop, List.nil_append, List.append_nil, Nat.zero_add] at h
        obtain ⟨hQ1, hR1, hR2⟩ := told1_R ok ht1
        rw [← hQ1]
        refine ⟨?_, ?_⟩
        · skip
          repeat (first | (with_reducible refine NilP.mk ?_) | ((with_reducible refine RunN.isLoad ?_); (first | refine h.loadB 0 0 ⟨_, rfl, rfl⟩ rfl rfl ?_ | refine h.loadB 1 0 ⟨_, rfl, rfl⟩ rfl rfl ?_ | refine h.loadB 2 0 ⟨_, rfl, rfl⟩ rfl rfl ?_ | refine h.drew.loadB 0 0 ⟨_, rfl, rfl⟩ rfl rfl ?_ | refine h.drew.loadB 1 0 ⟨_, rfl, rfl⟩ rfl rfl ?_ | refine h.drew.loadB 2 0 ⟨_, rfl, rfl⟩ rfl rfl ?_)) | ((with_reducible refine ReadN.isLoad ?_); (first | refine h.readB 0 0 ⟨_, rfl, rfl⟩ rfl rfl ?_ | refine h.readB 1 0 ⟨_, rfl, rfl⟩ rfl rfl ?_ | refine h.readB 2 0 ⟨_, rfl, rfl⟩ rfl rfl ?_ | refine h.drew.readB 0 0 ⟨_, rfl, rfl⟩ rfl rfl ?_ | refine h.drew.readB 1 0 ⟨_, rfl, rfl⟩ rfl rfl ?_ | refine h.drew.readB 2 0 ⟨_, rfl, rfl⟩ rfl rfl ?_)) | ((with_reducible refine StillV.isLoad ?_); (first | refine ⟨h.stillB 0 0 ⟨_, rfl, rfl⟩ rfl rfl, ?_⟩ | refine ⟨h.stillB 1 0 ⟨_, rfl, rfl⟩ rfl rfl, ?_⟩ | refine ⟨h.stillB 2 0 ⟨_, rfl, rfl⟩ rfl rfl, ?_⟩)) | ((with_reducible refine RunU.isStor ?_); (first | (refine h.storB 0 0 ⟨_, rfl, rfl⟩ rfl rfl rfl ?_; intro w h; dsimp only [updG, setO] at h) | (refine h.storB 1 0 ⟨_, rfl, rfl⟩ rfl rfl rfl ?_; intro w h; dsimp only [updG, setO] at h) | (refine h.storB 2 0 ⟨_, rfl, rfl⟩ rfl rfl rfl ?_; intro w h; dsimp only [updG, setO] at h) | (refine h.drew.storB 0 0 ⟨_, rfl, rfl⟩ rfl rfl rfl ?_; intro w h; dsimp only [updG, setO] at h) | (refine h.drew.storB 1 0 ⟨_, rfl, rfl⟩ rfl rfl rfl ?_; intro w h; dsimp only [updG, setO] at h) | (refine h.drew.storB 2 0 ⟨_, rfl, rfl⟩ rfl rfl rfl ?_; intro w h; dsimp only [updG, setO] at h))) | ((with_reducible refine RunN.isBox ?_); (first | (refine h.newB run_boxA rfl ?_; intro bn w h; try dsimp only at h) | (refine h.drew.newB run_boxA rfl ?_; intro bn w h; try dsimp only at h))) | ((with_reducible refine RunN.isNew ?_); (first | (refine h.newB (NewC.run _) rfl ?_; intro bn w h) | (refine h.drew.newB (NewC.run _) rfl ?_; intro bn w h))))
          refine (rdeliverP h.drew hR1 hR2 (i := i)).mono ?_
          rintro r w ⟨f', t', q', m', e', p2, rfl, ht2, h⟩
          first | refine h.newB (NewC.run _) rfl ?_ | refine h.drew.newB (NewC.run _) rfl ?_
          intro t7 w h
          try dsimp only at h
          have h := h.back 13
          dsimp only [insO] at h
          refine h.storA 13 0 ⟨_, rfl, rfl⟩ rfl (hk := ?_)
          intro w h
          dsimp only [updG, setO] at h
          simp only [List.take_zero, List.drop, List.nil_append, List.append_nil, Nat.zero_add] at h
          obtain ⟨rfl, rfl, rfl, rfl, hml, hQ, hC, ok'⟩ := told_both ok ht1 ht2
          refine h.loadA 14 0 ⟨_, rfl, rfl⟩ rfl (f', t', q, ()) (hk := ?_)
          refine h.loadA 13 0 ⟨_, rfl, rfl⟩ rfl (f', t', q', ()) (hk := ?_)
          have h := (h.drop 2).back 11
          dsimp only [delO, insO] at h
          have hQ2 : p2.Q = p1.Q := hQ.trans hQ1.symm
          rw [← hQ2]
          refine (letter_st h ok' hn hml (fun w h => h.rd (k := 0) (i := 0) ⟨_, rfl, rfl⟩)).mono ?_
          rintro r w ⟨rfl, p', h1, h2, h3, h⟩
          exact ⟨rfl, p', h1, h2.trans hC, h3, ((h.drop 10).drop 10).drop 10⟩
        · skip
          repeat (first | (with_reducible refine NilP.mk ?_) | ((with_reducible refine RunN.isLoad ?_); (first | refine h.loadB 0 0 ⟨_, rfl, rfl⟩ rfl rfl ?_ | refine h.loadB 1 0 ⟨_, rfl, rfl⟩ rfl rfl ?_ | refine h.loadB 2 0 ⟨_, rfl, rfl⟩ rfl rfl ?_ | refine h.loadB 3 0 ⟨_, rfl, rfl⟩ rfl rfl ?_ | refine h.drew.loadB 0 0 ⟨_, rfl, rfl⟩ rfl rfl ?_ | refine h.drew.loadB 1 0 ⟨_, rfl, rfl⟩ rfl rfl ?_ | refine h.drew.loadB 2 0 ⟨_, rfl, rfl⟩ rfl rfl ?_ | refine h.drew.loadB 3 0 ⟨_, rfl, rfl⟩ rfl rfl ?_)) | ((with_reducible refine ReadN.isLoad ?_); (first | refine h.readB 0 0 ⟨_, rfl, rfl⟩ rfl rfl ?_ | refine h.readB 1 0 ⟨_, rfl, rfl⟩ rfl rfl ?_ | refine h.readB 2 0 ⟨_, rfl, rfl⟩ rfl rfl ?_ | refine h.readB 3 0 ⟨_, rfl, rfl⟩ rfl rfl ?_ | refine h.drew.readB 0 0 ⟨_, rfl, rfl⟩ rfl rfl ?_ | refine h.drew.readB 1 0 ⟨_, rfl, rfl⟩ rfl rfl ?_ | refine h.drew.readB 2 0 ⟨_, rfl, rfl⟩ rfl rfl ?_ | refine h.drew.readB 3 0 ⟨_, rfl, rfl⟩ rfl rfl ?_)) | ((with_reducible refine StillV.isLoad ?_); (first | refine ⟨h.stillB 0 0 ⟨_, rfl, rfl⟩ rfl rfl, ?_⟩ | refine ⟨h.stillB 1 0 ⟨_, rfl, rfl⟩ rfl rfl, ?_⟩ | refine ⟨h.stillB 2 0 ⟨_, rfl, rfl⟩ rfl rfl, ?_⟩ | refine ⟨h.stillB 3 0 ⟨_, rfl, rfl⟩ rfl rfl, ?_⟩)) | ((with_reducible refine RunU.isStor ?_); (first | (refine h.storB 0 0 ⟨_, rfl, rfl⟩ rfl rfl rfl ?_; intro w h; dsimp only [updG, setO] at h) | (refine h.storB 1 0 ⟨_, rfl, rfl⟩ rfl rfl rfl ?_; intro w h; dsimp only [updG, setO] at h) | (refine h.storB 2 0 ⟨_, rfl, rfl⟩ rfl rfl rfl ?_; intro w h; dsimp only [updG, setO] at h) | (refine h.storB 3 0 ⟨_, rfl, rfl⟩ rfl rfl rfl ?_; intro w h; dsimp only [updG, setO] at h) | (refine h.drew.storB 0 0 ⟨_, rfl, rfl⟩ rfl rfl rfl ?_; intro w h; dsimp only [updG, setO] at h) | (refine h.drew.storB 1 0 ⟨_, rfl, rfl⟩ rfl rfl rfl ?_; intro w h; dsimp only [updG, setO] at h) | (refine h.drew.storB 2 0 ⟨_, rfl, rfl⟩ rfl rfl rfl ?_; intro w h; dsimp only [updG, setO] at h) | (refine h.drew.storB 3 0 ⟨_, rfl, rfl⟩ rfl rfl rfl ?_; intro w h; dsimp only [updG, setO] at h))) | ((with_reducible refine RunN.isBox ?_); (first | (refine h.newB run_boxA rfl ?_; intro bn w h; try dsimp only at h) | (refine h.drew.newB run_boxA rfl ?_; intro bn w h; try dsimp only at h))) | ((with_reducible refine RunN.isNew ?_); (first | (refine h.newB (NewC.run _) rfl ?_; intro bn w h) | (refine h.drew.newB (NewC.run _) rfl ?_; intro bn w h))))
          have h := h.back 12
          dsimp only [insO] at h
          refine (rdeliverP h hR1 hR2 (i := i)).mono ?_
          rintro r w ⟨f', t', q', m', e', p2, rfl, ht2, h⟩
          refine h.storA 13 0 ⟨_, rfl, rfl⟩ rfl (hk := ?_)
          intro w h
          dsimp only [updG, setO] at h
          simp only [List.take_zero, List.drop, List.nil_append, List.append_nil, Nat.zero_add] at h
          obtain ⟨rfl, rfl, rfl, rfl, hml, hQ, hC, ok'⟩ := told_both ok ht1 ht2
          refine h.loadA 14 0 ⟨_, rfl, rfl⟩ rfl (f', t', q, ()) (hk := ?_)
          refine h.loadA 13 0 ⟨_, rfl, rfl⟩ rfl (f', t', q', ()) (hk := ?_)
          have h := (h.drop 2).back 11
          dsimp only [delO, insO] at h
          have hQ2 : p2.Q = p1.Q := hQ.trans hQ1.symm
          rw [← hQ2]
          refine (letter_st h ok' hn hml (fun w h => h.rd (k := 0) (i := 0) ⟨_, rfl, rfl⟩)).mono ?_
          rintro r w ⟨rfl, p', h1, h2, h3, h⟩
          exact ⟨rfl, p', h1, h2.trans hC, h3, ((h.drop 10).drop 10).drop 10⟩
      · skip
        repeat (first | (with_reducible refine NilP.mk ?_) | ((with_reducible refine RunN.isLoad ?_); (first | refine h.loadB 0 0 ⟨_, rfl, rfl⟩ rfl rfl ?_ | refine h.loadB 1 0 ⟨_, rfl, rfl⟩ rfl rfl ?_ | refine h.loadB 2 0 ⟨_, rfl, rfl⟩ rfl rfl ?_ | refine h.drew.loadB 0 0 ⟨_, rfl, rfl⟩ rfl rfl ?_ | refine h.drew.loadB 1 0 ⟨_, rfl, rfl⟩ rfl rfl ?_ | refine h.drew.loadB 2 0 ⟨_, rfl, rfl⟩ rfl rfl ?_)) | ((with_reducible refine ReadN.isLoad ?_); (first | refine h.readB 0 0 ⟨_, rfl, rfl⟩ rfl rfl ?_ | refine h.readB 1 0 ⟨_, rfl, rfl⟩ rfl rfl ?_ | refine h.readB 2 0 ⟨_, rfl, rfl⟩ rfl rfl ?_ | refine h.drew.readB 0 0 ⟨_, rfl, rfl⟩ rfl rfl ?_ | refine h.drew.readB 1 0 ⟨_, rfl, rfl⟩ rfl rfl ?_ | refine h.drew.readB 2 0 ⟨_, rfl, rfl⟩ rfl rfl ?_)) | ((with_reducible refine StillV.isLoad ?_); (first | refine ⟨h.stillB 0 0 ⟨_, rfl, rfl⟩ rfl rfl, ?_⟩ | refine ⟨h.stillB 1 0 ⟨_, rfl, rfl⟩ rfl rfl, ?_⟩ | refine ⟨h.stillB 2 0 ⟨_, rfl, rfl⟩ rfl rfl, ?_⟩)) | ((with_reducible refine RunU.isStor ?_); (first | (refine h.storB 0 0 ⟨_, rfl, rfl⟩ rfl rfl rfl ?_; intro w h; dsimp only [updG, setO] at h) | (refine h.storB 1 0 ⟨_, rfl, rfl⟩ rfl rfl rfl ?_; intro w h; dsimp only [updG, setO] at h) | (refine h.storB 2 0 ⟨_, rfl, rfl⟩ rfl rfl rfl ?_; intro w h; dsimp only [updG, setO] at h) | (refine h.drew.storB 0 0 ⟨_, rfl, rfl⟩ rfl rfl rfl ?_; intro w h; dsimp only [updG, setO] at h) | (refine h.drew.storB 1 0 ⟨_, rfl, rfl⟩ rfl rfl rfl ?_; intro w h; dsimp only [updG, setO] at h) | (refine h.drew.storB 2 0 ⟨_, rfl, rfl⟩ rfl rfl rfl ?_; intro w h; dsimp only [updG, setO] at h))) | ((with_reducible refine RunN.isBox ?_); (first | (refine h.newB run_boxA rfl ?_; intro bn w h; try dsimp only at h) | (refine h.drew.newB run_boxA rfl ?_; intro bn w h; try dsimp only at h))) | ((with_reducible refine RunN.isNew ?_); (first | (refine h.newB (NewC.run _) rfl ?_; intro bn w h) | (refine h.drew.newB (NewC.run _) rfl ?_; intro bn w h))))
        have h := h.back 11
        dsimp only [insO] at h
        refine (deliverP h ok (i := i)).mono ?_
        rintro r w ⟨f, t, q, m, e, p1, rfl, ht1, h⟩
        refine h.storA 12 0 ⟨_, rfl, rfl⟩ rfl (hk := ?_)
        intro w h
        dsimp only [updG, setO] at h
        simp only [List.take_zero, List.drop, List.nil_append, List.append_nil, Nat.zero_add] at h
        obtain ⟨hQ1, hR1, hR2⟩ := told1_R ok ht1
        rw [← hQ1]
        refine ⟨?_, ?_⟩
        · skip
          repeat (first | (with_reducible refine NilP.mk ?_) | ((with_reducible refine RunN.isLoad ?_); (first | refine h.loadB 0 0 ⟨_, rfl, rfl⟩ rfl rfl ?_ | refine h.loadB 1 0 ⟨_, rfl, rfl⟩ rfl rfl ?_ | refine h.loadB 2 0 ⟨_, rfl, rfl⟩ rfl rfl ?_ | refine h.drew.loadB 0 0 ⟨_, rfl, rfl⟩ rfl rfl ?_ | refine h.drew.loadB 1 0 ⟨_, rfl, rfl⟩ rfl rfl ?_ | refine h.drew.loadB 2 0 ⟨_, rfl, rfl⟩ rfl rfl ?_)) | ((with_reducible refine ReadN.isLoad ?_); (first | refine h.readB 0 0 ⟨_, rfl, rfl⟩ rfl rfl ?_ | refine h.readB 1 0 ⟨_, rfl, rfl⟩ rfl rfl ?_ | refine h.readB 2 0 ⟨_, rfl, rfl⟩ rfl rfl ?_ | refine h.drew.readB 0 0 ⟨_, rfl, rfl⟩ rfl rfl ?_ | refine h.drew.readB 1 0 ⟨_, rfl, rfl⟩ rfl rfl ?_ | refine h.drew.readB 2 0 ⟨_, rfl, rfl⟩ rfl rfl ?_)) | ((with_reducible refine StillV.isLoad ?_); (first | refine ⟨h.stillB 0 0 ⟨_, rfl, rfl⟩ rfl rfl, ?_⟩ | refine ⟨h.stillB 1 0 ⟨_, rfl, rfl⟩ rfl rfl, ?_⟩ | refine ⟨h.stillB 2 0 ⟨_, rfl, rfl⟩ rfl rfl, ?_⟩)) | ((with_reducible refine RunU.isStor ?_); (first | (refine h.storB 0 0 ⟨_, rfl, rfl⟩ rfl rfl rfl ?_; intro w h; dsimp only [updG, setO] at h) | (refine h.storB 1 0 ⟨_, rfl, rfl⟩ rfl rfl rfl ?_; intro w h; dsimp only [updG, setO] at h) | (refine h.storB 2 0 ⟨_, rfl, rfl⟩ rfl rfl rfl ?_; intro w h; dsimp only [updG, setO] at h) | (refine h.drew.storB 0 0 ⟨_, rfl, rfl⟩ rfl rfl rfl ?_; intro w h; dsimp only [updG, setO] at h) | (refine h.drew.storB 1 0 ⟨_, rfl, rfl⟩ rfl rfl rfl ?_; intro w h; dsimp only [updG, setO] at h) | (refine h.drew.storB 2 0 ⟨_, rfl, rfl⟩ rfl rfl rfl ?_; intro w h; dsimp only [updG, setO] at h))) | ((with_reducible refine RunN.isBox ?_); (first | (refine h.newB run_boxA rfl ?_; intro bn w h; try dsimp only at h) | (refine h.drew.newB run_boxA rfl ?_; intro bn w h; try dsimp only at h))) | ((with_reducible refine RunN.isNew ?_); (first | (refine h.newB (NewC.run _) rfl ?_; intro bn w h) | (refine h.drew.newB (NewC.run _) rfl ?_; intro bn w h))))
          refine (rdeliverP h.drew hR1 hR2 (i := i)).mono ?_
          rintro r w ⟨f', t', q', m', e', p2, rfl, ht2, h⟩
          first | refine h.newB (NewC.run _) rfl ?_ | refine h.drew.newB (NewC.run _) rfl ?_
          intro t7 w h
          try dsimp only at h
          have h := h.back 13
          dsimp only [insO] at h
          refine h.storA 13 0 ⟨_, rfl, rfl⟩ rfl (hk := ?_)
          intro w h
          dsimp only [updG, setO] at h
          simp only [List.take_zero, List.drop, List.nil_append, List.append_nil, Nat.zero_add] at h
          obtain ⟨rfl, rfl, rfl, rfl, hml, hQ, hC, ok'⟩ := told_both ok ht1 ht2
          refine h.loadA 14 0 ⟨_, rfl, rfl⟩ rfl (f', t', q, ()) (hk := ?_)
          refine h.loadA 13 0 ⟨_, rfl, rfl⟩ rfl (f', t', q', ()) (hk := ?_)
          have h := (h.drop 2).back 11
          dsimp only [delO, insO] at h
          have hQ2 : p2.Q = p1.Q := hQ.trans hQ1.symm
          rw [← hQ2]
          refine (letter_st h ok' hn hml (fun w h => h.rd (k := 0) (i := 0) ⟨_, rfl, rfl⟩)).mono ?_
          rintro r w ⟨rfl, p', h1, h2, h3, h⟩
          exact ⟨rfl, p', h1, h2.trans hC, h3, ((h.drop 10).drop 10).drop 10⟩
        · skip
          repeat (first | (with_reducible refine NilP.mk ?_) | ((with_reducible refine RunN.isLoad ?_); (first | refine h.loadB 0 0 ⟨_, rfl, rfl⟩ rfl rfl ?_ | refine h.loadB 1 0 ⟨_, rfl, rfl⟩ rfl rfl ?_ | refine h.loadB 2 0 ⟨_, rfl, rfl⟩ rfl rfl ?_ | refine h.loadB 3 0 ⟨_, rfl, rfl⟩ rfl rfl ?_ | refine h.drew.loadB 0 0 ⟨_, rfl, rfl⟩ rfl rfl ?_ | refine h.drew.loadB 1 0 ⟨_, rfl, rfl⟩ rfl rfl ?_ | refine h.drew.loadB 2 0 ⟨_, rfl, rfl⟩ rfl rfl ?_ | refine h.drew.loadB 3 0 ⟨_, rfl, rfl⟩ rfl rfl ?_)) | ((with_reducible refine ReadN.isLoad ?_); (first | refine h.readB 0 0 ⟨_, rfl, rfl⟩ rfl rfl ?_ | refine h.readB 1 0 ⟨_, rfl, rfl⟩ rfl rfl ?_ | refine h.readB 2 0 ⟨_, rfl, rfl⟩ rfl rfl ?_ | refine h.readB 3 0 ⟨_, rfl, rfl⟩ rfl rfl ?_ | refine h.drew.readB 0 0 ⟨_, rfl, rfl⟩ rfl rfl ?_ | refine h.drew.readB 1 0 ⟨_, rfl, rfl⟩ rfl rfl ?_ | refine h.drew.readB 2 0 ⟨_, rfl, rfl⟩ rfl rfl ?_ | refine h.drew.readB 3 0 ⟨_, rfl, rfl⟩ rfl rfl ?_)) | ((with_reducible refine StillV.isLoad ?_); (first | refine ⟨h.stillB 0 0 ⟨_, rfl, rfl⟩ rfl rfl, ?_⟩ | refine ⟨h.stillB 1 0 ⟨_, rfl, rfl⟩ rfl rfl, ?_⟩ | refine ⟨h.stillB 2 0 ⟨_, rfl, rfl⟩ rfl rfl, ?_⟩ | refine ⟨h.stillB 3 0 ⟨_, rfl, rfl⟩ rfl rfl, ?_⟩)) | ((with_reducible refine RunU.isStor ?_); (first | (refine h.storB 0 0 ⟨_, rfl, rfl⟩ rfl rfl rfl ?_; intro w h; dsimp only [updG, setO] at h) | (refine h.storB 1 0 ⟨_, rfl, rfl⟩ rfl rfl rfl ?_; intro w h; dsimp only [updG, setO] at h) | (refine h.storB 2 0 ⟨_, rfl, rfl⟩ rfl rfl rfl ?_; intro w h; dsimp only [updG, setO] at h) | (refine h.storB 3 0 ⟨_, rfl, rfl⟩ rfl rfl rfl ?_; intro w h; dsimp only [updG, setO] at h) | (refine h.drew.storB 0 0 ⟨_, rfl, rfl⟩ rfl rfl rfl ?_; intro w h; dsimp only [updG, setO] at h) | (refine h.drew.storB 1 0 ⟨_, rfl, rfl⟩ rfl rfl rfl ?_; intro w h; dsimp only [updG, setO] at h) | (refine h.drew.storB 2 0 ⟨_, rfl, rfl⟩ rfl rfl rfl ?_; intro w h; dsimp only [updG, setO] at h) | (refine h.drew.storB 3 0 ⟨_, rfl, rfl⟩ rfl rfl rfl ?_; intro w h; dsimp only [updG, setO] at h))) | ((with_reducible refine RunN.isBox ?_); (first | (refine h.newB run_boxA rfl ?_; intro bn w h; try dsimp only at h) | (refine h.drew.newB run_boxA rfl ?_; intro bn w h; try dsimp only at h))) | ((with_reducible refine RunN.isNew ?_); (first | (refine h.newB (NewC.run _) rfl ?_; intro bn w h) | (refine h.drew.newB (NewC.run _) rfl ?_; intro bn w h))))
          have h := h.back 12
          dsimp only [insO] at h
          refine (rdeliverP h hR1 hR2 (i := i)).mono ?_
          rintro r w ⟨f', t', q', m', e', p2, rfl, ht2, h⟩
          refine h.storA 13 0 ⟨_, rfl, rfl⟩ rfl (hk := ?_)
          intro w h
          dsimp only [updG, setO] at h
          simp only [List.take_zero, List.drop, List.nil_append, List.append_nil, Nat.zero_add] at h
          obtain ⟨rfl, rfl, rfl, rfl, hml, hQ, hC, ok'⟩ := told_both ok ht1 ht2
          refine h.loadA 14 0 ⟨_, rfl, rfl⟩ rfl (f', t', q, ()) (hk := ?_)
          refine h.loadA 13 0 ⟨_, rfl, rfl⟩ rfl (f', t', q', ()) (hk := ?_)
          have h := (h.drop 2).back 11
          dsimp only [delO, insO] at h
          have hQ2 : p2.Q = p1.Q := hQ.trans hQ1.symm
          rw [← hQ2]
          refine (letter_st h ok' hn hml (fun w h => h.rd (k := 0) (i := 0) ⟨_, rfl, rfl⟩)).mono ?_
          rintro r w ⟨rfl, p', h1, h2, h3, h⟩
          exact ⟨rfl, p', h1, h2.trans hC, h3, ((h.drop 10).drop 10).drop 10⟩
    · skip
      rw [SplitB_iff]
      refine ⟨fun h3 => ?_, fun h3 => ?_⟩
      · skip
        repeat (first | (with_reducible refine NilP.mk ?_) | ((with_reducible refine RunN.isLoad ?_); (first | refine h.loadB 0 0 ⟨_, rfl, rfl⟩ rfl rfl ?_ | refine h.loadB 1 0 ⟨_, rfl, rfl⟩ rfl rfl ?_ | refine h.drew.loadB 0 0 ⟨_, rfl, rfl⟩ rfl rfl ?_ | refine h.drew.loadB 1 0 ⟨_, rfl, rfl⟩ rfl rfl ?_)) | ((with_reducible refine ReadN.isLoad ?_); (first | refine h.readB 0 0 ⟨_, rfl, rfl⟩ rfl rfl ?_ | refine h.readB 1 0 ⟨_, rfl, rfl⟩ rfl rfl ?_ | refine h.drew.readB 0 0 ⟨_, rfl, rfl⟩ rfl rfl ?_ | refine h.drew.readB 1 0 ⟨_, rfl, rfl⟩ rfl rfl ?_)) | ((with_reducible refine StillV.isLoad ?_); (first | refine ⟨h.stillB 0 0 ⟨_, rfl, rfl⟩ rfl rfl, ?_⟩ | refine ⟨h.stillB 1 0 ⟨_, rfl, rfl⟩ rfl rfl, ?_⟩)) | ((with_reducible refine RunU.isStor ?_); (first | (refine h.storB 0 0 ⟨_, rfl, rfl⟩ rfl rfl rfl ?_; intro w h; dsimp only [updG, setO] at h) | (refine h.storB 1 0 ⟨_, rfl, rfl⟩ rfl rfl rfl ?_; intro w h; dsimp only [updG, setO] at h) | (refine h.drew.storB 0 0 ⟨_, rfl, rfl⟩ rfl rfl rfl ?_; intro w h; dsimp only [updG, setO] at h) | (refine h.drew.storB 1 0 ⟨_, rfl, rfl⟩ rfl rfl rfl ?_; intro w h; dsimp only [updG, setO] at h))) | ((with_reducible refine RunN.isBox ?_); (first | (refine h.newB run_boxA rfl ?_; intro bn w h; try dsimp only at h) | (refine h.drew.newB run_boxA rfl ?_; intro bn w h; try dsimp only at h))) | ((with_reducible refine RunN.isNew ?_); (first | (refine h.newB (NewC.run _) rfl ?_; intro bn w h) | (refine h.drew.newB (NewC.run _) rfl ?_; intro bn w h))))
        repeat (first | (with_reducible refine NilP.mk ?_) | ((with_reducible refine RunN.isLoad ?_); (first | refine h.loadB 0 0 ⟨_, rfl, rfl⟩ rfl rfl ?_ | refine h.loadB 1 0 ⟨_, rfl, rfl⟩ rfl rfl ?_ | refine h.drew.loadB 0 0 ⟨_, rfl, rfl⟩ rfl rfl ?_ | refine h.drew.loadB 1 0 ⟨_, rfl, rfl⟩ rfl rfl ?_)) | ((with_reducible refine ReadN.isLoad ?_); (first | refine h.readB 0 0 ⟨_, rfl, rfl⟩ rfl rfl ?_ | refine h.readB 1 0 ⟨_, rfl, rfl⟩ rfl rfl ?_ | refine h.drew.readB 0 0 ⟨_, rfl, rfl⟩ rfl rfl ?_ | refine h.drew.readB 1 0 ⟨_, rfl, rfl⟩ rfl rfl ?_)) | ((with_reducible refine StillV.isLoad ?_); (first | refine ⟨h.stillB 0 0 ⟨_, rfl, rfl⟩ rfl rfl, ?_⟩ | refine ⟨h.stillB 1 0 ⟨_, rfl, rfl⟩ rfl rfl, ?_⟩)) | ((with_reducible refine RunU.isStor ?_); (first | (refine h.storB 0 0 ⟨_, rfl, rfl⟩ rfl rfl rfl ?_; intro w h; dsimp only [updG, setO] at h) | (refine h.storB 1 0 ⟨_, rfl, rfl⟩ rfl rfl rfl ?_; intro w h; dsimp only [updG, setO] at h) | (refine h.drew.storB 0 0 ⟨_, rfl, rfl⟩ rfl rfl rfl ?_; intro w h; dsimp only [updG, setO] at h) | (refine h.drew.storB 1 0 ⟨_, rfl, rfl⟩ rfl rfl rfl ?_; intro w h; dsimp only [updG, setO] at h))) | ((with_reducible refine RunN.isBox ?_); (first | (refine h.newB run_boxA rfl ?_; intro bn w h; try dsimp only at h) | (refine h.drew.newB run_boxA rfl ?_; intro bn w h; try dsimp only at h))) | ((with_reducible refine RunN.isNew ?_); (first | (refine h.newB (NewC.run _) rfl ?_; intro bn w h) | (refine h.drew.newB (NewC.run _) rfl ?_; intro bn w h))))
        refine (drop_st (h.drew.bring 2 rfl) ok.small (i := i)).mono ?_
        intro e w he
        have key : ∃ sB' xB', ((∃ (a : Nat) (ha : a < p.xB.length), i = (a : Int) ∧ e = 0 ∧ xB' = p.xB.eraseIdx a) ∨ (¬ (0 ≤ i ∧ i < (p.xB.length : Int)) ∧ e = 40 ∧ xB' = p.xB)) ∧
            St w0 w ([.cel t3 48 [.int .i64 kk, .int .i64 wh, .int .i64 i, .int .i64 j, .int .i64 f0, .int .i64 t0, .slice d.a d.len d.cap]] :: ({ p with sB := sB', xB := xB' } : Pr).gs F) := by
          rcases he with ⟨a, ha, rfl, he, s', h⟩ | ⟨hni, he, h⟩
          · exact ⟨s', _, .inl ⟨a, ha, rfl, he, rfl⟩, h.back 2⟩
          · exact ⟨p.sB, _, .inr ⟨hni, he, rfl⟩, h.back 2⟩
        clear he h
        obtain ⟨sB', xB', hB, h⟩ := key
        repeat (first | (with_reducible refine NilP.mk ?_) | ((with_reducible refine RunN.isLoad ?_); (first | refine h.loadB 0 0 ⟨_, rfl, rfl⟩ rfl rfl ?_ | refine h.loadB 1 0 ⟨_, rfl, rfl⟩ rfl rfl ?_ | refine h.drew.loadB 0 0 ⟨_, rfl, rfl⟩ rfl rfl ?_ | refine h.drew.loadB 1 0 ⟨_, rfl, rfl⟩ rfl rfl ?_)) | ((with_reducible refine ReadN.isLoad ?_); (first | refine h.readB 0 0 ⟨_, rfl, rfl⟩ rfl rfl ?_ | refine h.readB 1 0 ⟨_, rfl, rfl⟩ rfl rfl ?_ | refine h.drew.readB 0 0 ⟨_, rfl, rfl⟩ rfl rfl ?_ | refine h.drew.readB 1 0 ⟨_, rfl, rfl⟩ rfl rfl ?_)) | ((with_reducible refine StillV.isLoad ?_); (first | refine ⟨h.stillB 0 0 ⟨_, rfl, rfl⟩ rfl rfl, ?_⟩ | refine ⟨h.stillB 1 0 ⟨_, rfl, rfl⟩ rfl rfl, ?_⟩)) | ((with_reducible refine RunU.isStor ?_); (first | (refine h.storB 0 0 ⟨_, rfl, rfl⟩ rfl rfl rfl ?_; intro w h; dsimp only [updG, setO] at h) | (refine h.storB 1 0 ⟨_, rfl, rfl⟩ rfl rfl rfl ?_; intro w h; dsimp only [updG, setO] at h) | (refine h.drew.storB 0 0 ⟨_, rfl, rfl⟩ rfl rfl rfl ?_; intro w h; dsimp only [updG, setO] at h) | (refine h.drew.storB 1 0 ⟨_, rfl, rfl⟩ rfl rfl rfl ?_; intro w h; dsimp only [updG, setO] at h))) | ((with_reducible refine RunN.isBox ?_); (first | (refine h.newB run_boxA rfl ?_; intro bn w h; try dsimp only at h) | (refine h.drew.newB run_boxA rfl ?_; intro bn w h; try dsimp only at h))) | ((with_reducible refine RunN.isNew ?_); (first | (refine h.newB (NewC.run _) rfl ?_; intro bn w h) | (refine h.drew.newB (NewC.run _) rfl ?_; intro bn w h))))
        refine num_st.mono ?_
        rintro r w ⟨rfl, rfl⟩
        repeat (first | (with_reducible refine NilP.mk ?_) | ((with_reducible refine RunN.isLoad ?_); (first | refine h.loadB 0 0 ⟨_, rfl, rfl⟩ rfl rfl ?_ | refine h.loadB 1 0 ⟨_, rfl, rfl⟩ rfl rfl ?_ | refine h.drew.loadB 0 0 ⟨_, rfl, rfl⟩ rfl rfl ?_ | refine h.drew.loadB 1 0 ⟨_, rfl, rfl⟩ rfl rfl ?_)) | ((with_reducible refine ReadN.isLoad ?_); (first | refine h.readB 0 0 ⟨_, rfl, rfl⟩ rfl rfl ?_ | refine h.readB 1 0 ⟨_, rfl, rfl⟩ rfl rfl ?_ | refine h.drew.readB 0 0 ⟨_, rfl, rfl⟩ rfl rfl ?_ | refine h.drew.readB 1 0 ⟨_, rfl, rfl⟩ rfl rfl ?_)) | ((with_reducible refine StillV.isLoad ?_); (first | refine ⟨h.stillB 0 0 ⟨_, rfl, rfl⟩ rfl rfl, ?_⟩ | refine ⟨h.stillB 1 0 ⟨_, rfl, rfl⟩ rfl rfl, ?_⟩)) | ((with_reducible refine RunU.isStor ?_); (first | (refine h.storB 0 0 ⟨_, rfl, rfl⟩ rfl rfl rfl ?_; intro w h; dsimp only [updG, setO] at h) | (refine h.storB 1 0 ⟨_, rfl, rfl⟩ rfl rfl rfl ?_; intro w h; dsimp only [updG, setO] at h) | (refine h.drew.storB 0 0 ⟨_, rfl, rfl⟩ rfl rfl rfl ?_; intro w h; dsimp only [updG, setO] at h) | (refine h.drew.storB 1 0 ⟨_, rfl, rfl⟩ rfl rfl rfl ?_; intro w h; dsimp only [updG, setO] at h))) | ((with_reducible refine RunN.isBox ?_); (first | (refine h.newB run_boxA rfl ?_; intro bn w h; try dsimp only at h) | (refine h.drew.newB run_boxA rfl ?_; intro bn w h; try dsimp only at h))) | ((with_reducible refine RunN.isNew ?_); (first | (refine h.newB (NewC.run _) rfl ?_; intro bn w h) | (refine h.drew.newB (NewC.run _) rfl ?_; intro bn w h))))
        have hl := ok.len
        refine (rdrop_st (h.bring 3 rfl) (show p.xR.length ≤ 65536 by have := ok.small; omega) (i := i)).mono ?_
        intro e2 w he
        dsimp only at he
        rcases hB with ⟨a, ha, rfl, he1, rfl⟩ | ⟨hni, he1, rfl⟩
        · rcases he with ⟨b, hb, hab, he2, s', h⟩ | ⟨hni, he2, h⟩
          · have : a = b := by omega
            subst this
            exact ⟨by rw [he1, he2]; rfl, { p with sB := sB', xB := p.xB.eraseIdx a, sR := s', xR := p.xR.eraseIdx a }, rfl, rfl, (ok.erase ha).mono (by omega), (h.back 3).drop 0⟩
          · omega
        · rcases he with ⟨b, hb, hab, he2, s', h⟩ | ⟨_, he2, h⟩
          · omega
          · exact ⟨by rw [he1, he2]; rfl, { p with sB := sB' }, rfl, rfl, { ok.mono (Nat.le_succ n) with }, (h.back 3).drop 0⟩
      · skip
        rw [SplitB_iff]
        refine ⟨fun h4 => ?_, fun h4 => ?_⟩
        · skip
          repeat (first | (with_reducible refine NilP.mk ?_) | ((with_reducible refine RunN.isLoad ?_); (first | refine h.loadB 0 0 ⟨_, rfl, rfl⟩ rfl rfl ?_ | refine h.loadB 1 0 ⟨_, rfl, rfl⟩ rfl rfl ?_ | refine h.drew.loadB 0 0 ⟨_, rfl, rfl⟩ rfl rfl ?_ | refine h.drew.loadB 1 0 ⟨_, rfl, rfl⟩ rfl rfl ?_)) | ((with_reducible refine ReadN.isLoad ?_); (first | refine h.readB 0 0 ⟨_, rfl, rfl⟩ rfl rfl ?_ | refine h.readB 1 0 ⟨_, rfl, rfl⟩ rfl rfl ?_ | refine h.drew.readB 0 0 ⟨_, rfl, rfl⟩ rfl rfl ?_ | refine h.drew.readB 1 0 ⟨_, rfl, rfl⟩ rfl rfl ?_)) | ((with_reducible refine StillV.isLoad ?_); (first | refine ⟨h.stillB 0 0 ⟨_, rfl, rfl⟩ rfl rfl, ?_⟩ | refine ⟨h.stillB 1 0 ⟨_, rfl, rfl⟩ rfl rfl, ?_⟩)) | ((with_reducible refine RunU.isStor ?_); (first | (refine h.storB 0 0 ⟨_, rfl, rfl⟩ rfl rfl rfl ?_; intro w h; dsimp only [updG, setO] at h) | (refine h.storB 1 0 ⟨_, rfl, rfl⟩ rfl rfl rfl ?_; intro w h; dsimp only [updG, setO] at h) | (refine h.drew.storB 0 0 ⟨_, rfl, rfl⟩ rfl rfl rfl ?_; intro w h; dsimp only [updG, setO] at h) | (refine h.drew.storB 1 0 ⟨_, rfl, rfl⟩ rfl rfl rfl ?_; intro w h; dsimp only [updG, setO] at h))) | ((with_reducible refine RunN.isBox ?_); (first | (refine h.newB run_boxA rfl ?_; intro bn w h; try dsimp only at h) | (refine h.drew.newB run_boxA rfl ?_; intro bn w h; try dsimp only at h))) | ((with_reducible refine RunN.isNew ?_); (first | (refine h.newB (NewC.run _) rfl ?_; intro bn w h) | (refine h.drew.newB (NewC.run _) rfl ?_; intro bn w h))))
          repeat (first | (with_reducible refine NilP.mk ?_) | ((with_reducible refine RunN.isLoad ?_); (first | refine h.loadB 0 0 ⟨_, rfl, rfl⟩ rfl rfl ?_ | refine h.loadB 1 0 ⟨_, rfl, rfl⟩ rfl rfl ?_ | refine h.drew.loadB 0 0 ⟨_, rfl, rfl⟩ rfl rfl ?_ | refine h.drew.loadB 1 0 ⟨_, rfl, rfl⟩ rfl rfl ?_)) | ((with_reducible refine ReadN.isLoad ?_); (first | refine h.readB 0 0 ⟨_, rfl, rfl⟩ rfl rfl ?_ | refine h.readB 1 0 ⟨_, rfl, rfl⟩ rfl rfl ?_ | refine h.drew.readB 0 0 ⟨_, rfl, rfl⟩ rfl rfl ?_ | refine h.drew.readB 1 0 ⟨_, rfl, rfl⟩ rfl rfl ?_)) | ((with_reducible refine StillV.isLoad ?_); (first | refine ⟨h.stillB 0 0 ⟨_, rfl, rfl⟩ rfl rfl, ?_⟩ | refine ⟨h.stillB 1 0 ⟨_, rfl, rfl⟩ rfl rfl, ?_⟩)) | ((with_reducible refine RunU.isStor ?_); (first | (refine h.storB 0 0 ⟨_, rfl, rfl⟩ rfl rfl rfl ?_; intro w h; dsimp only [updG, setO] at h) | (refine h.storB 1 0 ⟨_, rfl, rfl⟩ rfl rfl rfl ?_; intro w h; dsimp only [updG, setO] at h) | (refine h.drew.storB 0 0 ⟨_, rfl, rfl⟩ rfl rfl rfl ?_; intro w h; dsimp only [updG, setO] at h) | (refine h.drew.storB 1 0 ⟨_, rfl, rfl⟩ rfl rfl rfl ?_; intro w h; dsimp only [updG, setO] at h))) | ((with_reducible refine RunN.isBox ?_); (first | (refine h.newB run_boxA rfl ?_; intro bn w h; try dsimp only at h) | (refine h.drew.newB run_boxA rfl ?_; intro bn w h; try dsimp only at h))) | ((with_reducible refine RunN.isNew ?_); (first | (refine h.newB (NewC.run _) rfl ?_; intro bn w h) | (refine h.drew.newB (NewC.run _) rfl ?_; intro bn w h))))
          refine (double_st (h.drew.bring 2 rfl) ok.small ok.bigB (i := i)).mono ?_
          intro e w he
          have key : ∃ sB' xB', ((∃ (a : Nat) (ha : a < p.xB.length), i = (a : Int) ∧ (p.xB.length : Int) ≠ p.cap ∧ e = 0 ∧ ∃ q, xB' = p.xB ++ [(p.xB[a].1, q)]) ∨ ((0 ≤ i ∧ i < (p.xB.length : Int)) ∧ (p.xB.length : Int) = p.cap ∧ e = 41 ∧ xB' = p.xB) ∨ (¬ (0 ≤ i ∧ i < (p.xB.length : Int)) ∧ e = 40 ∧ xB' = p.xB)) ∧
              St w0 w ([.cel t3 48 [.int .i64 kk, .int .i64 wh, .int .i64 i, .int .i64 j, .int .i64 f0, .int .i64 t0, .slice d.a d.len d.cap]] :: ({ p with sB := sB', xB := xB' } : Pr).gs F) := by
            rcases he with ⟨a, ha, rfl, hc, he, s', q, h⟩ | ⟨hi, hc, he, h⟩ | ⟨hni, he, h⟩
            · exact ⟨s', _, .inl ⟨a, ha, rfl, hc, he, q, rfl⟩, h.back 2⟩
            · exact ⟨p.sB, _, .inr (.inl ⟨hi, hc, he, rfl⟩), h.back 2⟩
            · exact ⟨p.sB, _, .inr (.inr ⟨hni, he, rfl⟩), h.back 2⟩
          clear he h
          obtain ⟨sB', xB', hB, h⟩ := key
          repeat (first | (with_reducible refine NilP.mk ?_) | ((with_reducible refine RunN.isLoad ?_); (first | refine h.loadB 0 0 ⟨_, rfl, rfl⟩ rfl rfl ?_ | refine h.loadB 1 0 ⟨_, rfl, rfl⟩ rfl rfl ?_ | refine h.drew.loadB 0 0 ⟨_, rfl, rfl⟩ rfl rfl ?_ | refine h.drew.loadB 1 0 ⟨_, rfl, rfl⟩ rfl rfl ?_)) | ((with_reducible refine ReadN.isLoad ?_); (first | refine h.readB 0 0 ⟨_, rfl, rfl⟩ rfl rfl ?_ | refine h.readB 1 0 ⟨_, rfl, rfl⟩ rfl rfl ?_ | refine h.drew.readB 0 0 ⟨_, rfl, rfl⟩ rfl rfl ?_ | refine h.drew.readB 1 0 ⟨_, rfl, rfl⟩ rfl rfl ?_)) | ((with_reducible refine StillV.isLoad ?_); (first | refine ⟨h.stillB 0 0 ⟨_, rfl, rfl⟩ rfl rfl, ?_⟩ | refine ⟨h.stillB 1 0 ⟨_, rfl, rfl⟩ rfl rfl, ?_⟩)) | ((with_reducible refine RunU.isStor ?_); (first | (refine h.storB 0 0 ⟨_, rfl, rfl⟩ rfl rfl rfl ?_; intro w h; dsimp only [updG, setO] at h) | (refine h.storB 1 0 ⟨_, rfl, rfl⟩ rfl rfl rfl ?_; intro w h; dsimp only [updG, setO] at h) | (refine h.drew.storB 0 0 ⟨_, rfl, rfl⟩ rfl rfl rfl ?_; intro w h; dsimp only [updG, setO] at h) | (refine h.drew.storB 1 0 ⟨_, rfl, rfl⟩ rfl rfl rfl ?_; intro w h; dsimp only [updG, setO] at h))) | ((with_reducible refine RunN.isBox ?_); (first | (refine h.newB run_boxA rfl ?_; intro bn w h; try dsimp only at h) | (refine h.drew.newB run_boxA rfl ?_; intro bn w h; try dsimp only at h))) | ((with_reducible refine RunN.isNew ?_); (first | (refine h.newB (NewC.run _) rfl ?_; intro bn w h) | (refine h.drew.newB (NewC.run _) rfl ?_; intro bn w h))))
          refine num_st.mono ?_
          rintro r w ⟨rfl, rfl⟩
          repeat (first | (with_reducible refine NilP.mk ?_) | ((with_reducible refine RunN.isLoad ?_); (first | refine h.loadB 0 0 ⟨_, rfl, rfl⟩ rfl rfl ?_ | refine h.loadB 1 0 ⟨_, rfl, rfl⟩ rfl rfl ?_ | refine h.drew.loadB 0 0 ⟨_, rfl, rfl⟩ rfl rfl ?_ | refine h.drew.loadB 1 0 ⟨_, rfl, rfl⟩ rfl rfl ?_)) | ((with_reducible refine ReadN.isLoad ?_); (first | refine h.readB 0 0 ⟨_, rfl, rfl⟩ rfl rfl ?_ | refine h.readB 1 0 ⟨_, rfl, rfl⟩ rfl rfl ?_ | refine h.drew.readB 0 0 ⟨_, rfl, rfl⟩ rfl rfl ?_ | refine h.drew.readB 1 0 ⟨_, rfl, rfl⟩ rfl rfl ?_)) | ((with_reducible refine StillV.isLoad ?_); (first | refine ⟨h.stillB 0 0 ⟨_, rfl, rfl⟩ rfl rfl, ?_⟩ | refine ⟨h.stillB 1 0 ⟨_, rfl, rfl⟩ rfl rfl, ?_⟩)) | ((with_reducible refine RunU.isStor ?_); (first | (refine h.storB 0 0 ⟨_, rfl, rfl⟩ rfl rfl rfl ?_; intro w h; dsimp only [updG, setO] at h) | (refine h.storB 1 0 ⟨_, rfl, rfl⟩ rfl rfl rfl ?_; intro w h; dsimp only [updG, setO] at h) | (refine h.drew.storB 0 0 ⟨_, rfl, rfl⟩ rfl rfl rfl ?_; intro w h; dsimp only [updG, setO] at h) | (refine h.drew.storB 1 0 ⟨_, rfl, rfl⟩ rfl rfl rfl ?_; intro w h; dsimp only [updG, setO] at h))) | ((with_reducible refine RunN.isBox ?_); (first | (refine h.newB run_boxA rfl ?_; intro bn w h; try dsimp only at h) | (refine h.drew.newB run_boxA rfl ?_; intro bn w h; try dsimp only at h))) | ((with_reducible refine RunN.isNew ?_); (first | (refine h.newB (NewC.run _) rfl ?_; intro bn w h) | (refine h.drew.newB (NewC.run _) rfl ?_; intro bn w h))))
          have hl := ok.len
          have hfit := ok.fit
          refine (rdouble_st (h.bring 3 rfl) (show p.xR.length ≤ 65536 by have := ok.small; omega) (show (p.xR.length : Int) ≤ p.cap by omega) ok.bigR (i := i)).mono ?_
          intro e2 w he
          dsimp only at he
          rcases hB with ⟨a, ha, rfl, hc, he1, q, rfl⟩ | ⟨hi, hc, he1, rfl⟩ | ⟨hni, he1, rfl⟩
          · rcases he with ⟨b, hb, hab, hc2, he2, s', q2, h⟩ | ⟨hi, hc2, he2, h⟩ | ⟨hni, he2, h⟩
            · have : a = b := by omega
              subst this
              have hx := ok.at ha hb
              refine ⟨by rw [he1, he2]; rfl, { p with sB := sB', xB := p.xB ++ [(p.xB[a].1, q)], sR := s', xR := p.xR ++ [(p.xR[a].1, q2)] }, rfl, rfl, ?_, (h.back 3).drop 0⟩
              refine { ok.mono (Nat.le_succ n) with same := by simp [ok.same, hx], fit := by dsimp only; rw [List.length_append]; simp; omega, lens := ?_ }
              intro x hxm
              rcases List.mem_append.1 hxm with hxm | hxm
              · exact ok.lens x hxm
              · simp at hxm; subst hxm; exact ok.lens p.xB[a] (List.getElem_mem _)
            · omega
            · omega
          · rcases he with ⟨b, hb, hab, hc2, he2, s', q2, h⟩ | ⟨_, hc2, he2, h⟩ | ⟨hni, he2, h⟩
            · omega
            · exact ⟨by rw [he1, he2]; rfl, { p with sB := sB' }, rfl, rfl, { ok.mono (Nat.le_succ n) with }, (h.back 3).drop 0⟩
            · omega
          · rcases he with ⟨b, hb, hab, hc2, he2, s', q2, h⟩ | ⟨hi, hc2, he2, h⟩ | ⟨_, he2, h⟩
            · omega
            · omega
            · exact ⟨by rw [he1, he2]; rfl, { p with sB := sB' }, rfl, rfl, { ok.mono (Nat.le_succ n) with }, (h.back 3).drop 0⟩
        · skip
          rw [SplitB_iff]
          refine ⟨fun h5 => ?_, fun h5 => ?_⟩
          · skip
            repeat (first | (with_reducible refine NilP.mk ?_) | ((with_reducible refine RunN.isLoad ?_); (first | refine h.loadB 0 0 ⟨_, rfl, rfl⟩ rfl rfl ?_ | refine h.loadB 1 0 ⟨_, rfl, rfl⟩ rfl rfl ?_ | refine h.drew.loadB 0 0 ⟨_, rfl, rfl⟩ rfl rfl ?_ | refine h.drew.loadB 1 0 ⟨_, rfl, rfl⟩ rfl rfl ?_)) | ((with_reducible refine ReadN.isLoad ?_); (first | refine h.readB 0 0 ⟨_, rfl, rfl⟩ rfl rfl ?_ | refine h.readB 1 0 ⟨_, rfl, rfl⟩ rfl rfl ?_ | refine h.drew.readB 0 0 ⟨_, rfl, rfl⟩ rfl rfl ?_ | refine h.drew.readB 1 0 ⟨_, rfl, rfl⟩ rfl rfl ?_)) | ((with_reducible refine StillV.isLoad ?_); (first | refine ⟨h.stillB 0 0 ⟨_, rfl, rfl⟩ rfl rfl, ?_⟩ | refine ⟨h.stillB 1 0 ⟨_, rfl, rfl⟩ rfl rfl, ?_⟩)) | ((with_reducible refine RunU.isStor ?_); (first | (refine h.storB 0 0 ⟨_, rfl, rfl⟩ rfl rfl rfl ?_; intro w h; dsimp only [updG, setO] at h) | (refine h.storB 1 0 ⟨_, rfl, rfl⟩ rfl rfl rfl ?_; intro w h; dsimp only [updG, setO] at h) | (refine h.drew.storB 0 0 ⟨_, rfl, rfl⟩ rfl rfl rfl ?_; intro w h; dsimp only [updG, setO] at h) | (refine h.drew.storB 1 0 ⟨_, rfl, rfl⟩ rfl rfl rfl ?_; intro w h; dsimp only [updG, setO] at h))) | ((with_reducible refine RunN.isBox ?_); (first | (refine h.newB run_boxA rfl ?_; intro bn w h; try dsimp only at h) | (refine h.drew.newB run_boxA rfl ?_; intro bn w h; try dsimp only at h))) | ((with_reducible refine RunN.isNew ?_); (first | (refine h.newB (NewC.run _) rfl ?_; intro bn w h) | (refine h.drew.newB (NewC.run _) rfl ?_; intro bn w h))))
            repeat (first | (with_reducible refine NilP.mk ?_) | ((with_reducible refine RunN.isLoad ?_); (first | refine h.loadB 0 0 ⟨_, rfl, rfl⟩ rfl rfl ?_ | refine h.loadB 1 0 ⟨_, rfl, rfl⟩ rfl rfl ?_ | refine h.drew.loadB 0 0 ⟨_, rfl, rfl⟩ rfl rfl ?_ | refine h.drew.loadB 1 0 ⟨_, rfl, rfl⟩ rfl rfl ?_)) | ((with_reducible refine ReadN.isLoad ?_); (first | refine h.readB 0 0 ⟨_, rfl, rfl⟩ rfl rfl ?_ | refine h.readB 1 0 ⟨_, rfl, rfl⟩ rfl rfl ?_ | refine h.drew.readB 0 0 ⟨_, rfl, rfl⟩ rfl rfl ?_ | refine h.drew.readB 1 0 ⟨_, rfl, rfl⟩ rfl rfl ?_)) | ((with_reducible refine StillV.isLoad ?_); (first | refine ⟨h.stillB 0 0 ⟨_, rfl, rfl⟩ rfl rfl, ?_⟩ | refine ⟨h.stillB 1 0 ⟨_, rfl, rfl⟩ rfl rfl, ?_⟩)) | ((with_reducible refine RunU.isStor ?_); (first | (refine h.storB 0 0 ⟨_, rfl, rfl⟩ rfl rfl rfl ?_; intro w h; dsimp only [updG, setO] at h) | (refine h.storB 1 0 ⟨_, rfl, rfl⟩ rfl rfl rfl ?_; intro w h; dsimp only [updG, setO] at h) | (refine h.drew.storB 0 0 ⟨_, rfl, rfl⟩ rfl rfl rfl ?_; intro w h; dsimp only [updG, setO] at h) | (refine h.drew.storB 1 0 ⟨_, rfl, rfl⟩ rfl rfl rfl ?_; intro w h; dsimp only [updG, setO] at h))) | ((with_reducible refine RunN.isBox ?_); (first | (refine h.newB run_boxA rfl ?_; intro bn w h; try dsimp only at h) | (refine h.drew.newB run_boxA rfl ?_; intro bn w h; try dsimp only at h))) | ((with_reducible refine RunN.isNew ?_); (first | (refine h.newB (NewC.run _) rfl ?_; intro bn w h) | (refine h.drew.newB (NewC.run _) rfl ?_; intro bn w h))))
            refine (move_st (h.drew.bring 2 rfl) ok.small (i := i) (j := j)).mono ?_
            intro e w he
            have key : ∃ xB', ((∃ (a b : Nat) (ha : a < p.xB.length), b < p.xB.length ∧ i = (a : Int) ∧ j = (b : Int) ∧ e = 0 ∧ xB' = (p.xB.eraseIdx a).insertIdx b p.xB[a]) ∨ (¬ ((0 ≤ i ∧ i < (p.xB.length : Int)) ∧ (0 ≤ j ∧ j < (p.xB.length : Int))) ∧ e = 40 ∧ xB' = p.xB)) ∧
                St w0 w ([.cel t3 48 [.int .i64 kk, .int .i64 wh, .int .i64 i, .int .i64 j, .int .i64 f0, .int .i64 t0, .slice d.a d.len d.cap]] :: ({ p with xB := xB' } : Pr).gs F) := by
              rcases he with ⟨hni, he, h⟩ | ⟨a, b, ha, hb, rfl, rfl, he, h⟩
              · exact ⟨_, .inr ⟨hni, he, rfl⟩, h.back 2⟩
              · exact ⟨_, .inl ⟨a, b, ha, hb, rfl, rfl, he, rfl⟩, h.back 2⟩
            clear he h
            obtain ⟨xB', hB, h⟩ := key
            repeat (first | (with_reducible refine NilP.mk ?_) | ((with_reducible refine RunN.isLoad ?_); (first | refine h.loadB 0 0 ⟨_, rfl, rfl⟩ rfl rfl ?_ | refine h.loadB 1 0 ⟨_, rfl, rfl⟩ rfl rfl ?_ | refine h.drew.loadB 0 0 ⟨_, rfl, rfl⟩ rfl rfl ?_ | refine h.drew.loadB 1 0 ⟨_, rfl, rfl⟩ rfl rfl ?_)) | ((with_reducible refine ReadN.isLoad ?_); (first | refine h.readB 0 0 ⟨_, rfl, rfl⟩ rfl rfl ?_ | refine h.readB 1 0 ⟨_, rfl, rfl⟩ rfl rfl ?_ | refine h.drew.readB 0 0 ⟨_, rfl, rfl⟩ rfl rfl ?_ | refine h.drew.readB 1 0 ⟨_, rfl, rfl⟩ rfl rfl ?_)) | ((with_reducible refine StillV.isLoad ?_); (first | refine ⟨h.stillB 0 0 ⟨_, rfl, rfl⟩ rfl rfl, ?_⟩ | refine ⟨h.stillB 1 0 ⟨_, rfl, rfl⟩ rfl rfl, ?_⟩)) | ((with_reducible refine RunU.isStor ?_); (first | (refine h.storB 0 0 ⟨_, rfl, rfl⟩ rfl rfl rfl ?_; intro w h; dsimp only [updG, setO] at h) | (refine h.storB 1 0 ⟨_, rfl, rfl⟩ rfl rfl rfl ?_; intro w h; dsimp only [updG, setO] at h) | (refine h.drew.storB 0 0 ⟨_, rfl, rfl⟩ rfl rfl rfl ?_; intro w h; dsimp only [updG, setO] at h) | (refine h.drew.storB 1 0 ⟨_, rfl, rfl⟩ rfl rfl rfl ?_; intro w h; dsimp only [updG, setO] at h))) | ((with_reducible refine RunN.isBox ?_); (first | (refine h.newB run_boxA rfl ?_; intro bn w h; try dsimp only at h) | (refine h.drew.newB run_boxA rfl ?_; intro bn w h; try dsimp only at h))) | ((with_reducible refine RunN.isNew ?_); (first | (refine h.newB (NewC.run _) rfl ?_; intro bn w h) | (refine h.drew.newB (NewC.run _) rfl ?_; intro bn w h))))
            refine num_st.mono ?_
            rintro r w ⟨rfl, rfl⟩
            repeat (first | (with_reducible refine NilP.mk ?_) | ((with_reducible refine RunN.isLoad ?_); (first | refine h.loadB 0 0 ⟨_, rfl, rfl⟩ rfl rfl ?_ | refine h.loadB 1 0 ⟨_, rfl, rfl⟩ rfl rfl ?_ | refine h.drew.loadB 0 0 ⟨_, rfl, rfl⟩ rfl rfl ?_ | refine h.drew.loadB 1 0 ⟨_, rfl, rfl⟩ rfl rfl ?_)) | ((with_reducible refine ReadN.isLoad ?_); (first | refine h.readB 0 0 ⟨_, rfl, rfl⟩ rfl rfl ?_ | refine h.readB 1 0 ⟨_, rfl, rfl⟩ rfl rfl ?_ | refine h.drew.readB 0 0 ⟨_, rfl, rfl⟩ rfl rfl ?_ | refine h.drew.readB 1 0 ⟨_, rfl, rfl⟩ rfl rfl ?_)) | ((with_reducible refine StillV.isLoad ?_); (first | refine ⟨h.stillB 0 0 ⟨_, rfl, rfl⟩ rfl rfl, ?_⟩ | refine ⟨h.stillB 1 0 ⟨_, rfl, rfl⟩ rfl rfl, ?_⟩)) | ((with_reducible refine RunU.isStor ?_); (first | (refine h.storB 0 0 ⟨_, rfl, rfl⟩ rfl rfl rfl ?_; intro w h; dsimp only [updG, setO] at h) | (refine h.storB 1 0 ⟨_, rfl, rfl⟩ rfl rfl rfl ?_; intro w h; dsimp only [updG, setO] at h) | (refine h.drew.storB 0 0 ⟨_, rfl, rfl⟩ rfl rfl rfl ?_; intro w h; dsimp only [updG, setO] at h) | (refine h.drew.storB 1 0 ⟨_, rfl, rfl⟩ rfl rfl rfl ?_; intro w h; dsimp only [updG, setO] at h))) | ((with_reducible refine RunN.isBox ?_); (first | (refine h.newB run_boxA rfl ?_; intro bn w h; try dsimp only at h) | (refine h.drew.newB run_boxA rfl ?_; intro bn w h; try dsimp only at h))) | ((with_reducible refine RunN.isNew ?_); (first | (refine h.newB (NewC.run _) rfl ?_; intro bn w h) | (refine h.drew.newB (NewC.run _) rfl ?_; intro bn w h))))
            have hl := ok.len
            refine (rmove_st (h.bring 3 rfl) (show p.xR.length ≤ 65536 by have := ok.small; omega) (i := i) (j := j)).mono ?_
            intro e2 w he
            dsimp only at he
            rcases hB with ⟨a, b, ha, hb, rfl, rfl, he1, rfl⟩ | ⟨hni, he1, rfl⟩
            · rcases he with ⟨hni, he2, h⟩ | ⟨a', b', ha', hb', e1, e2', he2, s', h⟩
              · omega
              · have : a = a' := by omega
                subst this
                have : b = b' := by omega
                subst this
                have hx := ok.at ha ha'
                refine ⟨by rw [he1, he2]; rfl, { p with xB := (p.xB.eraseIdx a).insertIdx b p.xB[a], sR := s', xR := (p.xR.eraseIdx a).insertIdx b p.xR[a] }, rfl, rfl, ?_, (h.back 3).drop 0⟩
                have hlB : ((p.xB.eraseIdx a).insertIdx b p.xB[a]).length = p.xB.length := (move_perm p.xB ha hb).length_eq
                have hlE := List.length_eraseIdx_of_lt ha
                have hlE' := List.length_eraseIdx_of_lt ha'
                refine { ok.mono (Nat.le_succ n) with same := ?_, fit := by dsimp only; rw [hlB]; exact ok.fit, lens := fun x hx => ok.lens x ((move_perm p.xB ha hb).mem_iff.1 hx) }
                have := contS_insert (p.xB.eraseIdx a) b p.xB[a] (by omega)
                have this2 := contS_insert (p.xR.eraseIdx a) b p.xR[a] (by omega)
                simp only [contS] at this this2
                dsimp only
                rw [this, this2, map_erase, map_erase, ok.same, hx]
            · rcases he with ⟨_, he2, h⟩ | ⟨a', b', ha', hb', e1, e2', he2, s', h⟩
              · exact ⟨by rw [he1, he2]; rfl, p, rfl, rfl, ok.mono (Nat.le_succ n), (h.back 3).drop 0⟩
              · omega
          · skip
            rw [SplitB_iff]
            refine ⟨fun h6 => ?_, fun h6 => ?_⟩
            · skip
              repeat (first | (with_reducible refine NilP.mk ?_) | ((with_reducible refine RunN.isLoad ?_); (first | refine h.loadB 0 0 ⟨_, rfl, rfl⟩ rfl rfl ?_ | refine h.loadB 1 0 ⟨_, rfl, rfl⟩ rfl rfl ?_ | refine h.loadB 2 0 ⟨_, rfl, rfl⟩ rfl rfl ?_ | refine h.loadB 3 0 ⟨_, rfl, rfl⟩ rfl rfl ?_ | refine h.drew.loadB 0 0 ⟨_, rfl, rfl⟩ rfl rfl ?_ | refine h.drew.loadB 1 0 ⟨_, rfl, rfl⟩ rfl rfl ?_ | refine h.drew.loadB 2 0 ⟨_, rfl, rfl⟩ rfl rfl ?_ | refine h.drew.loadB 3 0 ⟨_, rfl, rfl⟩ rfl rfl ?_)) | ((with_reducible refine ReadN.isLoad ?_); (first | refine h.readB 0 0 ⟨_, rfl, rfl⟩ rfl rfl ?_ | refine h.readB 1 0 ⟨_, rfl, rfl⟩ rfl rfl ?_ | refine h.readB 2 0 ⟨_, rfl, rfl⟩ rfl rfl ?_ | refine h.readB 3 0 ⟨_, rfl, rfl⟩ rfl rfl ?_ | refine h.drew.readB 0 0 ⟨_, rfl, rfl⟩ rfl rfl ?_ | refine h.drew.readB 1 0 ⟨_, rfl, rfl⟩ rfl rfl ?_ | refine h.drew.readB 2 0 ⟨_, rfl, rfl⟩ rfl rfl ?_ | refine h.drew.readB 3 0 ⟨_, rfl, rfl⟩ rfl rfl ?_)) | ((with_reducible refine StillV.isLoad ?_); (first | refine ⟨h.stillB 0 0 ⟨_, rfl, rfl⟩ rfl rfl, ?_⟩ | refine ⟨h.stillB 1 0 ⟨_, rfl, rfl⟩ rfl rfl, ?_⟩ | refine ⟨h.stillB 2 0 ⟨_, rfl, rfl⟩ rfl rfl, ?_⟩ | refine ⟨h.stillB 3 0 ⟨_, rfl, rfl⟩ rfl rfl, ?_⟩)) | ((with_reducible refine RunU.isStor ?_); (first | (refine h.storB 0 0 ⟨_, rfl, rfl⟩ rfl rfl rfl ?_; intro w h; dsimp only [updG, setO] at h) | (refine h.storB 1 0 ⟨_, rfl, rfl⟩ rfl rfl rfl ?_; intro w h; dsimp only [updG, setO] at h) | (refine h.storB 2 0 ⟨_, rfl, rfl⟩ rfl rfl rfl ?_; intro w h; dsimp only [updG, setO] at h) | (refine h.storB 3 0 ⟨_, rfl, rfl⟩ rfl rfl rfl ?_; intro w h; dsimp only [updG, setO] at h) | (refine h.drew.storB 0 0 ⟨_, rfl, rfl⟩ rfl rfl rfl ?_; intro w h; dsimp only [updG, setO] at h) | (refine h.drew.storB 1 0 ⟨_, rfl, rfl⟩ rfl rfl rfl ?_; intro w h; dsimp only [updG, setO] at h) | (refine h.drew.storB 2 0 ⟨_, rfl, rfl⟩ rfl rfl rfl ?_; intro w h; dsimp only [updG, setO] at h) | (refine h.drew.storB 3 0 ⟨_, rfl, rfl⟩ rfl rfl rfl ?_; intro w h; dsimp only [updG, setO] at h))) | ((with_reducible refine RunN.isBox ?_); (first | (refine h.newB run_boxA rfl ?_; intro bn w h; try dsimp only at h) | (refine h.drew.newB run_boxA rfl ?_; intro bn w h; try dsimp only at h))) | ((with_reducible refine RunN.isNew ?_); (first | (refine h.newB (NewC.run _) rfl ?_; intro bn w h) | (refine h.drew.newB (NewC.run _) rfl ?_; intro bn w h))))
              refine (len_st (h.drew.bring 2 rfl)).mono ?_
              rintro r w ⟨rfl, rfl⟩
              have h := h.drew
              repeat (first | (with_reducible refine NilP.mk ?_) | ((with_reducible refine RunN.isLoad ?_); (first | refine h.loadB 0 0 ⟨_, rfl, rfl⟩ rfl rfl ?_ | refine h.loadB 1 0 ⟨_, rfl, rfl⟩ rfl rfl ?_ | refine h.loadB 2 0 ⟨_, rfl, rfl⟩ rfl rfl ?_ | refine h.loadB 3 0 ⟨_, rfl, rfl⟩ rfl rfl ?_ | refine h.drew.loadB 0 0 ⟨_, rfl, rfl⟩ rfl rfl ?_ | refine h.drew.loadB 1 0 ⟨_, rfl, rfl⟩ rfl rfl ?_ | refine h.drew.loadB 2 0 ⟨_, rfl, rfl⟩ rfl rfl ?_ | refine h.drew.loadB 3 0 ⟨_, rfl, rfl⟩ rfl rfl ?_)) | ((with_reducible refine ReadN.isLoad ?_); (first | refine h.readB 0 0 ⟨_, rfl, rfl⟩ rfl rfl ?_ | refine h.readB 1 0 ⟨_, rfl, rfl⟩ rfl rfl ?_ | refine h.readB 2 0 ⟨_, rfl, rfl⟩ rfl rfl ?_ | refine h.readB 3 0 ⟨_, rfl, rfl⟩ rfl rfl ?_ | refine h.drew.readB 0 0 ⟨_, rfl, rfl⟩ rfl rfl ?_ | refine h.drew.readB 1 0 ⟨_, rfl, rfl⟩ rfl rfl ?_ | refine h.drew.readB 2 0 ⟨_, rfl, rfl⟩ rfl rfl ?_ | refine h.drew.readB 3 0 ⟨_, rfl, rfl⟩ rfl rfl ?_)) | ((with_reducible refine StillV.isLoad ?_); (first | refine ⟨h.stillB 0 0 ⟨_, rfl, rfl⟩ rfl rfl, ?_⟩ | refine ⟨h.stillB 1 0 ⟨_, rfl, rfl⟩ rfl rfl, ?_⟩ | refine ⟨h.stillB 2 0 ⟨_, rfl, rfl⟩ rfl rfl, ?_⟩ | refine ⟨h.stillB 3 0 ⟨_, rfl, rfl⟩ rfl rfl, ?_⟩)) | ((with_reducible refine RunU.isStor ?_); (first | (refine h.storB 0 0 ⟨_, rfl, rfl⟩ rfl rfl rfl ?_; intro w h; dsimp only [updG, setO] at h) | (refine h.storB 1 0 ⟨_, rfl, rfl⟩ rfl rfl rfl ?_; intro w h; dsimp only [updG, setO] at h) | (refine h.storB 2 0 ⟨_, rfl, rfl⟩ rfl rfl rfl ?_; intro w h; dsimp only [updG, setO] at h) | (refine h.storB 3 0 ⟨_, rfl, rfl⟩ rfl rfl rfl ?_; intro w h; dsimp only [updG, setO] at h) | (refine h.drew.storB 0 0 ⟨_, rfl, rfl⟩ rfl rfl rfl ?_; intro w h; dsimp only [updG, setO] at h) | (refine h.drew.storB 1 0 ⟨_, rfl, rfl⟩ rfl rfl rfl ?_; intro w h; dsimp only [updG, setO] at h) | (refine h.drew.storB 2 0 ⟨_, rfl, rfl⟩ rfl rfl rfl ?_; intro w h; dsimp only [updG, setO] at h) | (refine h.drew.storB 3 0 ⟨_, rfl, rfl⟩ rfl rfl rfl ?_; intro w h; dsimp only [updG, setO] at h))) | ((with_reducible refine RunN.isBox ?_); (first | (refine h.newB run_boxA rfl ?_; intro bn w h; try dsimp only at h) | (refine h.drew.newB run_boxA rfl ?_; intro bn w h; try dsimp only at h))) | ((with_reducible refine RunN.isNew ?_); (first | (refine h.newB (NewC.run _) rfl ?_; intro bn w h) | (refine h.drew.newB (NewC.run _) rfl ?_; intro bn w h))))
              have hlr := bag_len (h.bring 3 rfl)
              refine ⟨?_, p, rfl, rfl, ok.mono (Nat.le_succ n), h.drop 0⟩
              have := ok.len
              rw [hlr, this]; simp
            · skip
              rw [SplitB_iff]
              refine ⟨fun h7 => ?_, fun h7 => ?_⟩
              · skip
                refine ⟨?_, ?_⟩
                · skip
                  repeat (first | (with_reducible refine NilP.mk ?_) | ((with_reducible refine RunN.isLoad ?_); (first | refine h.loadB 0 0 ⟨_, rfl, rfl⟩ rfl rfl ?_ | refine h.loadB 1 0 ⟨_, rfl, rfl⟩ rfl rfl ?_ | refine h.drew.loadB 0 0 ⟨_, rfl, rfl⟩ rfl rfl ?_ | refine h.drew.loadB 1 0 ⟨_, rfl, rfl⟩ rfl rfl ?_)) | ((with_reducible refine ReadN.isLoad ?_); (first | refine h.readB 0 0 ⟨_, rfl, rfl⟩ rfl rfl ?_ | refine h.readB 1 0 ⟨_, rfl, rfl⟩ rfl rfl ?_ | refine h.drew.readB 0 0 ⟨_, rfl, rfl⟩ rfl rfl ?_ | refine h.drew.readB 1 0 ⟨_, rfl, rfl⟩ rfl rfl ?_)) | ((with_reducible refine StillV.isLoad ?_); (first | refine ⟨h.stillB 0 0 ⟨_, rfl, rfl⟩ rfl rfl, ?_⟩ | refine ⟨h.stillB 1 0 ⟨_, rfl, rfl⟩ rfl rfl, ?_⟩)) | ((with_reducible refine RunU.isStor ?_); (first | (refine h.storB 0 0 ⟨_, rfl, rfl⟩ rfl rfl rfl ?_; intro w h; dsimp only [updG, setO] at h) | (refine h.storB 1 0 ⟨_, rfl, rfl⟩ rfl rfl rfl ?_; intro w h; dsimp only [updG, setO] at h) | (refine h.drew.storB 0 0 ⟨_, rfl, rfl⟩ rfl rfl rfl ?_; intro w h; dsimp only [updG, setO] at h) | (refine h.drew.storB 1 0 ⟨_, rfl, rfl⟩ rfl rfl rfl ?_; intro w h; dsimp only [updG, setO] at h))) | ((with_reducible refine RunN.isBox ?_); (first | (refine h.newB run_boxA rfl ?_; intro bn w h; try dsimp only at h) | (refine h.drew.newB run_boxA rfl ?_; intro bn w h; try dsimp only at h))) | ((with_reducible refine RunN.isNew ?_); (first | (refine h.newB (NewC.run _) rfl ?_; intro bn w h) | (refine h.drew.newB (NewC.run _) rfl ?_; intro bn w h))))
                  refine (atP h.drew ok (i := i)).mono ?_
                  rintro r w ⟨f, t, q, m, e, p1, rfl, ht1, h⟩
                  first | refine h.newB (NewC.run _) rfl ?_ | refine h.drew.newB (NewC.run _) rfl ?_
                  intro t5 w h
                  try dsimp only at h
                  have h := h.back 12
                  dsimp only [insO] at h
                  refine h.storA 12 0 ⟨_, rfl, rfl⟩ rfl (hk := ?_)
                  intro w h
                  dsimp only [updG, setO] at h
                  simp only [List.take_zero, List.drop, List.nil_append, List.append_nil, Nat.zero_add] at h
                  obtain ⟨hQ1, hR1, hR2⟩ := told1_R ok ht1
                  rw [← hQ1]
                  refine ⟨?_, ?_⟩
                  · skip
                    repeat (first | (with_reducible refine NilP.mk ?_) | ((with_reducible refine RunN.isLoad ?_); (first | refine h.loadB 0 0 ⟨_, rfl, rfl⟩ rfl rfl ?_ | refine h.loadB 1 0 ⟨_, rfl, rfl⟩ rfl rfl ?_ | refine h.loadB 2 0 ⟨_, rfl, rfl⟩ rfl rfl ?_ | refine h.drew.loadB 0 0 ⟨_, rfl, rfl⟩ rfl rfl ?_ | refine h.drew.loadB 1 0 ⟨_, rfl, rfl⟩ rfl rfl ?_ | refine h.drew.loadB 2 0 ⟨_, rfl, rfl⟩ rfl rfl ?_)) | ((with_reducible refine ReadN.isLoad ?_); (first | refine h.readB 0 0 ⟨_, rfl, rfl⟩ rfl rfl ?_ | refine h.readB 1 0 ⟨_, rfl, rfl⟩ rfl rfl ?_ | refine h.readB 2 0 ⟨_, rfl, rfl⟩ rfl rfl ?_ | refine h.drew.readB 0 0 ⟨_, rfl, rfl⟩ rfl rfl ?_ | refine h.drew.readB 1 0 ⟨_, rfl, rfl⟩ rfl rfl ?_ | refine h.drew.readB 2 0 ⟨_, rfl, rfl⟩ rfl rfl ?_)) | ((with_reducible refine StillV.isLoad ?_); (first | refine ⟨h.stillB 0 0 ⟨_, rfl, rfl⟩ rfl rfl, ?_⟩ | refine ⟨h.stillB 1 0 ⟨_, rfl, rfl⟩ rfl rfl, ?_⟩ | refine ⟨h.stillB 2 0 ⟨_, rfl, rfl⟩ rfl rfl, ?_⟩)) | ((with_reducible refine RunU.isStor ?_); (first | (refine h.storB 0 0 ⟨_, rfl, rfl⟩ rfl rfl rfl ?_; intro w h; dsimp only [updG, setO] at h) | (refine h.storB 1 0 ⟨_, rfl, rfl⟩ rfl rfl rfl ?_; intro w h; dsimp only [updG, setO] at h) | (refine h.storB 2 0 ⟨_, rfl, rfl⟩ rfl rfl rfl ?_; intro w h; dsimp only [updG, setO] at h) | (refine h.drew.storB 0 0 ⟨_, rfl, rfl⟩ rfl rfl rfl ?_; intro w h; dsimp only [updG, setO] at h) | (refine h.drew.storB 1 0 ⟨_, rfl, rfl⟩ rfl rfl rfl ?_; intro w h; dsimp only [updG, setO] at h) | (refine h.drew.storB 2 0 ⟨_, rfl, rfl⟩ rfl rfl rfl ?_; intro w h; dsimp only [updG, setO] at h))) | ((with_reducible refine RunN.isBox ?_); (first | (refine h.newB run_boxA rfl ?_; intro bn w h; try dsimp only at h) | (refine h.drew.newB run_boxA rfl ?_; intro bn w h; try dsimp only at h))) | ((with_reducible refine RunN.isNew ?_); (first | (refine h.newB (NewC.run _) rfl ?_; intro bn w h) | (refine h.drew.newB (NewC.run _) rfl ?_; intro bn w h))))
                    refine (ratP h.drew hR1 hR2 (i := i)).mono ?_
                    rintro r w ⟨f', t', q', m', e', p2, rfl, ht2, h⟩
                    first | refine h.newB (NewC.run _) rfl ?_ | refine h.drew.newB (NewC.run _) rfl ?_
                    intro t7 w h
                    try dsimp only at h
                    have h := h.back 13
                    dsimp only [insO] at h
                    refine h.storA 13 0 ⟨_, rfl, rfl⟩ rfl (hk := ?_)
                    intro w h
                    dsimp only [updG, setO] at h
                    simp only [List.take_zero, List.drop, List.nil_append, List.append_nil, Nat.zero_add] at h
                    obtain ⟨rfl, rfl, rfl, rfl, hml, hQ, hC, ok'⟩ := told_both ok ht1 ht2
                    refine h.loadA 14 0 ⟨_, rfl, rfl⟩ rfl (f', t', q, ()) (hk := ?_)
                    refine h.loadA 13 0 ⟨_, rfl, rfl⟩ rfl (f', t', q', ()) (hk := ?_)
                    have h := (h.drop 2).back 11
                    dsimp only [delO, insO] at h
                    have hQ2 : p2.Q = p1.Q := hQ.trans hQ1.symm
                    rw [← hQ2]
                    refine (letter_st h ok' hn hml (fun w h => h.rd (k := 0) (i := 0) ⟨_, rfl, rfl⟩)).mono ?_
                    rintro r w ⟨rfl, p', h1, h2, h3, h⟩
                    exact ⟨rfl, p', h1, h2.trans hC, h3, ((h.drop 10).drop 10).drop 10⟩
                  · skip
                    repeat (first | (with_reducible refine NilP.mk ?_) | ((with_reducible refine RunN.isLoad ?_); (first | refine h.loadB 0 0 ⟨_, rfl, rfl⟩ rfl rfl ?_ | refine h.loadB 1 0 ⟨_, rfl, rfl⟩ rfl rfl ?_ | refine h.loadB 2 0 ⟨_, rfl, rfl⟩ rfl rfl ?_ | refine h.loadB 3 0 ⟨_, rfl, rfl⟩ rfl rfl ?_ | refine h.drew.loadB 0 0 ⟨_, rfl, rfl⟩ rfl rfl ?_ | refine h.drew.loadB 1 0 ⟨_, rfl, rfl⟩ rfl rfl ?_ | refine h.drew.loadB 2 0 ⟨_, rfl, rfl⟩ rfl rfl ?_ | refine h.drew.loadB 3 0 ⟨_, rfl, rfl⟩ rfl rfl ?_)) | ((with_reducible refine ReadN.isLoad ?_); (first | refine h.readB 0 0 ⟨_, rfl, rfl⟩ rfl rfl ?_ | refine h.readB 1 0 ⟨_, rfl, rfl⟩ rfl rfl ?_ | refine h.readB 2 0 ⟨_, rfl, rfl⟩ rfl rfl ?_ | refine h.readB 3 0 ⟨_, rfl, rfl⟩ rfl rfl ?_ | refine h.drew.readB 0 0 ⟨_, rfl, rfl⟩ rfl rfl ?_ | refine h.drew.readB 1 0 ⟨_, rfl, rfl⟩ rfl rfl ?_ | refine h.drew.readB 2 0 ⟨_, rfl, rfl⟩ rfl rfl ?_ | refine h.drew.readB 3 0 ⟨_, rfl, rfl⟩ rfl rfl ?_)) | ((with_reducible refine StillV.isLoad ?_); (first | refine ⟨h.stillB 0 0 ⟨_, rfl, rfl⟩ rfl rfl, ?_⟩ | refine ⟨h.stillB 1 0 ⟨_, rfl, rfl⟩ rfl rfl, ?_⟩ | refine ⟨h.stillB 2 0 ⟨_, rfl, rfl⟩ rfl rfl, ?_⟩ | refine ⟨h.stillB 3 0 ⟨_, rfl, rfl⟩ rfl rfl, ?_⟩)) | ((with_reducible refine RunU.isStor ?_); (first | (refine h.storB 0 0 ⟨_, rfl, rfl⟩ rfl rfl rfl ?_; intro w h; dsimp only [updG, setO] at h) | (refine h.storB 1 0 ⟨_, rfl, rfl⟩ rfl rfl rfl ?_; intro w h; dsimp only [updG, setO] at h) | (refine h.storB 2 0 ⟨_, rfl, rfl⟩ rfl rfl rfl ?_; intro w h; dsimp only [updG, setO] at h) | (refine h.storB 3 0 ⟨_, rfl, rfl⟩ rfl rfl rfl ?_; intro w h; dsimp only [updG, setO] at h) | (refine h.drew.storB 0 0 ⟨_, rfl, rfl⟩ rfl rfl rfl ?_; intro w h; dsimp only [updG, setO] at h) | (refine h.drew.storB 1 0 ⟨_, rfl, rfl⟩ rfl rfl rfl ?_; intro w h; dsimp only [updG, setO] at h) | (refine h.drew.storB 2 0 ⟨_, rfl, rfl⟩ rfl rfl rfl ?_; intro w h; dsimp only [updG, setO] at h) | (refine h.drew.storB 3 0 ⟨_, rfl, rfl⟩ rfl rfl rfl ?_; intro w h; dsimp only [updG, setO] at h))) | ((with_reducible refine RunN.isBox ?_); (first | (refine h.newB run_boxA rfl ?_; intro bn w h; try dsimp only at h) | (refine h.drew.newB run_boxA rfl ?_; intro bn w h; try dsimp only at h))) | ((with_reducible refine RunN.isNew ?_); (first | (refine h.newB (NewC.run _) rfl ?_; intro bn w h) | (refine h.drew.newB (NewC.run _) rfl ?_; intro bn w h))))
                    have h := h.back 12
                    dsimp only [insO] at h
                    refine (ratP h hR1 hR2 (i := i)).mono ?_
                    rintro r w ⟨f', t', q', m', e', p2, rfl, ht2, h⟩
                    refine h.storA 13 0 ⟨_, rfl, rfl⟩ rfl (hk := ?_)
                    intro w h
                    dsimp only [updG, setO] at h
                    simp only [List.take_zero, List.drop, List.nil_append, List.append_nil, Nat.zero_add] at h
                    obtain ⟨rfl, rfl, rfl, rfl, hml, hQ, hC, ok'⟩ := told_both ok ht1 ht2
                    refine h.loadA 14 0 ⟨_, rfl, rfl⟩ rfl (f', t', q, ()) (hk := ?_)
                    refine h.loadA 13 0 ⟨_, rfl, rfl⟩ rfl (f', t', q', ()) (hk := ?_)
                    have h := (h.drop 2).back 11
                    dsimp only [delO, insO] at h
                    have hQ2 : p2.Q = p1.Q := hQ.trans hQ1.symm
                    rw [← hQ2]
                    refine (letter_st h ok' hn hml (fun w h => h.rd (k := 0) (i := 0) ⟨_, rfl, rfl⟩)).mono ?_
                    rintro r w ⟨rfl, p', h1, h2, h3, h⟩
                    exact ⟨rfl, p', h1, h2.trans hC, h3, ((h.drop 10).drop 10).drop 10⟩
                · skip
                  repeat (first | (with_reducible refine NilP.mk ?_) | ((with_reducible refine RunN.isLoad ?_); (first | refine h.loadB 0 0 ⟨_, rfl, rfl⟩ rfl rfl ?_ | refine h.loadB 1 0 ⟨_, rfl, rfl⟩ rfl rfl ?_ | refine h.loadB 2 0 ⟨_, rfl, rfl⟩ rfl rfl ?_ | refine h.drew.loadB 0 0 ⟨_, rfl, rfl⟩ rfl rfl ?_ | refine h.drew.loadB 1 0 ⟨_, rfl, rfl⟩ rfl rfl ?_ | refine h.drew.loadB 2 0 ⟨_, rfl, rfl⟩ rfl rfl ?_)) | ((with_reducible refine ReadN.isLoad ?_); (first | refine h.readB 0 0 ⟨_, rfl, rfl⟩ rfl rfl ?_ | refine h.readB 1 0 ⟨_, rfl, rfl⟩ rfl rfl ?_ | refine h.readB 2 0 ⟨_, rfl, rfl⟩ rfl rfl ?_ | refine h.drew.readB 0 0 ⟨_, rfl, rfl⟩ rfl rfl ?_ | refine h.drew.readB 1 0 ⟨_, rfl, rfl⟩ rfl rfl ?_ | refine h.drew.readB 2 0 ⟨_, rfl, rfl⟩ rfl rfl ?_)) | ((with_reducible refine StillV.isLoad ?_); (first | refine ⟨h.stillB 0 0 ⟨_, rfl, rfl⟩ rfl rfl, ?_⟩ | refine ⟨h.stillB 1 0 ⟨_, rfl, rfl⟩ rfl rfl, ?_⟩ | refine ⟨h.stillB 2 0 ⟨_, rfl, rfl⟩ rfl rfl, ?_⟩)) | ((with_reducible refine RunU.isStor ?_); (first | (refine h.storB 0 0 ⟨_, rfl, rfl⟩ rfl rfl rfl ?_; intro w h; dsimp only [updG, setO] at h) | (refine h.storB 1 0 ⟨_, rfl, rfl⟩ rfl rfl rfl ?_; intro w h; dsimp only [updG, setO] at h) | (refine h.storB 2 0 ⟨_, rfl, rfl⟩ rfl rfl rfl ?_; intro w h; dsimp only [updG, setO] at h) | (refine h.drew.storB 0 0 ⟨_, rfl, rfl⟩ rfl rfl rfl ?_; intro w h; dsimp only [updG, setO] at h) | (refine h.drew.storB 1 0 ⟨_, rfl, rfl⟩ rfl rfl rfl ?_; intro w h; dsimp only [updG, setO] at h) | (refine h.drew.storB 2 0 ⟨_, rfl, rfl⟩ rfl rfl rfl ?_; intro w h; dsimp only [updG, setO] at h))) | ((with_reducible refine RunN.isBox ?_); (first | (refine h.newB run_boxA rfl ?_; intro bn w h; try dsimp only at h) | (refine h.drew.newB run_boxA rfl ?_; intro bn w h; try dsimp only at h))) | ((with_reducible refine RunN.isNew ?_); (first | (refine h.newB (NewC.run _) rfl ?_; intro bn w h) | (refine h.drew.newB (NewC.run _) rfl ?_; intro bn w h))))
                  have h := h.back 11
                  dsimp only [insO] at h
                  refine (atP h ok (i := i)).mono ?_
                  rintro r w ⟨f, t, q, m, e, p1, rfl, ht1, h⟩
                  refine h.storA 12 0 ⟨_, rfl, rfl⟩ rfl (hk := ?_)
                  intro w h
                  dsimp only [updG, setO] at h
                  simp only [List.take_zero, List.drop, List.nil_append, List.append_nil, Nat.zero_add] at h
                  obtain ⟨hQ1, hR1, hR2⟩ := told1_R ok ht1
                  rw [← hQ1]
                  refine ⟨?_, ?_⟩
                  · skip
                    repeat (first | (with_reducible refine NilP.mk ?_) | ((with_reducible refine RunN.isLoad ?_); (first | refine h.loadB 0 0 ⟨_, rfl, rfl⟩ rfl rfl ?_ | refine h.loadB 1 0 ⟨_, rfl, rfl⟩ rfl rfl ?_ | refine h.loadB 2 0 ⟨_, rfl, rfl⟩ rfl rfl ?_ | refine h.drew.loadB 0 0 ⟨_, rfl, rfl⟩ rfl rfl ?_ | refine h.drew.loadB 1 0 ⟨_, rfl, rfl⟩ rfl rfl ?_ | refine h.drew.loadB 2 0 ⟨_, rfl, rfl⟩ rfl rfl ?_)) | ((with_reducible refine ReadN.isLoad ?_); (first | refine h.readB 0 0 ⟨_, rfl, rfl⟩ rfl rfl ?_ | refine h.readB 1 0 ⟨_, rfl, rfl⟩ rfl rfl ?_ | refine h.readB 2 0 ⟨_, rfl, rfl⟩ rfl rfl ?_ | refine h.drew.readB 0 0 ⟨_, rfl, rfl⟩ rfl rfl ?_ | refine h.drew.readB 1 0 ⟨_, rfl, rfl⟩ rfl rfl ?_ | refine h.drew.readB 2 0 ⟨_, rfl, rfl⟩ rfl rfl ?_)) | ((with_reducible refine StillV.isLoad ?_); (first | refine ⟨h.stillB 0 0 ⟨_, rfl, rfl⟩ rfl rfl, ?_⟩ | refine ⟨h.stillB 1 0 ⟨_, rfl, rfl⟩ rfl rfl, ?_⟩ | refine ⟨h.stillB 2 0 ⟨_, rfl, rfl⟩ rfl rfl, ?_⟩)) | ((with_reducible refine RunU.isStor ?_); (first | (refine h.storB 0 0 ⟨_, rfl, rfl⟩ rfl rfl rfl ?_; intro w h; dsimp only [updG, setO] at h) | (refine h.storB 1 0 ⟨_, rfl, rfl⟩ rfl rfl rfl ?_; intro w h; dsimp only [updG, setO] at h) | (refine h.storB 2 0 ⟨_, rfl, rfl⟩ rfl rfl rfl ?_; intro w h; dsimp only [updG, setO] at h) | (refine h.drew.storB 0 0 ⟨_, rfl, rfl⟩ rfl rfl rfl ?_; intro w h; dsimp only [updG, setO] at h) | (refine h.drew.storB 1 0 ⟨_, rfl, rfl⟩ rfl rfl rfl ?_; intro w h; dsimp only [updG, setO] at h) | (refine h.drew.storB 2 0 ⟨_, rfl, rfl⟩ rfl rfl rfl ?_; intro w h; dsimp only [updG, setO] at h))) | ((with_reducible refine RunN.isBox ?_); (first | (refine h.newB run_boxA rfl ?_; intro bn w h; try dsimp only at h) | (refine h.drew.newB run_boxA rfl ?_; intro bn w h; try dsimp only at h))) | ((with_reducible refine RunN.isNew ?_); (first | (refine h.newB (NewC.run _) rfl ?_; intro bn w h) | (refine h.drew.newB (NewC.run _) rfl ?_; intro bn w h))))
                    refine (ratP h.drew hR1 hR2 (i := i)).mono ?_
                    rintro r w ⟨f', t', q', m', e', p2, rfl, ht2, h⟩
                    first | refine h.newB (NewC.run _) rfl ?_ | refine h.drew.newB (NewC.run _) rfl ?_
                    intro t7 w h
                    try dsimp only at h
                    have h := h.back 13
                    dsimp only [insO] at h
                    refine h.storA 13 0 ⟨_, rfl, rfl⟩ rfl (hk := ?_)
                    intro w h
                    dsimp only [updG, setO] at h
                    simp only [List.take_zero, List.drop, List.nil_append, List.append_nil, Nat.zero_add] at h
                    obtain ⟨rfl, rfl, rfl, rfl, hml, hQ, hC, ok'⟩ := told_both ok ht1 ht2
                    refine h.loadA 14 0 ⟨_, rfl, rfl⟩ rfl (f', t', q, ()) (hk := ?_)
                    refine h.loadA 13 0 ⟨_, rfl, rfl⟩ rfl (f', t', q', ()) (hk := ?_)
                    have h := (h.drop 2).back 11
                    dsimp only [delO, insO] at h
                    have hQ2 : p2.Q = p1.Q := hQ.trans hQ1.symm
                    rw [← hQ2]
                    refine (letter_st h ok' hn hml (fun w h => h.rd (k := 0) (i := 0) ⟨_, rfl, rfl⟩)).mono ?_
                    rintro r w ⟨rfl, p', h1, h2, h3, h⟩
                    exact ⟨rfl, p', h1, h2.trans hC, h3, ((h.drop 10).drop 10).drop 10⟩
                  · skip
                    repeat (first | (with_reducible refine NilP.mk ?_) | ((with_reducible refine RunN.isLoad ?_); (first | refine h.loadB 0 0 ⟨_, rfl, rfl⟩ rfl rfl ?_ | refine h.loadB 1 0 ⟨_, rfl, rfl⟩ rfl rfl ?_ | refine h.loadB 2 0 ⟨_, rfl, rfl⟩ rfl rfl ?_ | refine h.loadB 3 0 ⟨_, rfl, rfl⟩ rfl rfl ?_ | refine h.drew.loadB 0 0 ⟨_, rfl, rfl⟩ rfl rfl ?_ | refine h.drew.loadB 1 0 ⟨_, rfl, rfl⟩ rfl rfl ?_ | refine h.drew.loadB 2 0 ⟨_, rfl, rfl⟩ rfl rfl ?_ | refine h.drew.loadB 3 0 ⟨_, rfl, rfl⟩ rfl rfl ?_)) | ((with_reducible refine ReadN.isLoad ?_); (first | refine h.readB 0 0 ⟨_, rfl, rfl⟩ rfl rfl ?_ | refine h.readB 1 0 ⟨_, rfl, rfl⟩ rfl rfl ?_ | refine h.readB 2 0 ⟨_, rfl, rfl⟩ rfl rfl ?_ | refine h.readB 3 0 ⟨_, rfl, rfl⟩ rfl rfl ?_ | refine h.drew.readB 0 0 ⟨_, rfl, rfl⟩ rfl rfl ?_ | refine h.drew.readB 1 0 ⟨_, rfl, rfl⟩ rfl rfl ?_ | refine h.drew.readB 2 0 ⟨_, rfl, rfl⟩ rfl rfl ?_ | refine h.drew.readB 3 0 ⟨_, rfl, rfl⟩ rfl rfl ?_)) | ((with_reducible refine StillV.isLoad ?_); (first | refine ⟨h.stillB 0 0 ⟨_, rfl, rfl⟩ rfl rfl, ?_⟩ | refine ⟨h.stillB 1 0 ⟨_, rfl, rfl⟩ rfl rfl, ?_⟩ | refine ⟨h.stillB 2 0 ⟨_, rfl, rfl⟩ rfl rfl, ?_⟩ | refine ⟨h.stillB 3 0 ⟨_, rfl, rfl⟩ rfl rfl, ?_⟩)) | ((with_reducible refine RunU.isStor ?_); (first | (refine h.storB 0 0 ⟨_, rfl, rfl⟩ rfl rfl rfl ?_; intro w h; dsimp only [updG, setO] at h) | (refine h.storB 1 0 ⟨_, rfl, rfl⟩ rfl rfl rfl ?_; intro w h; dsimp only [updG, setO] at h) | (refine h.storB 2 0 ⟨_, rfl, rfl⟩ rfl rfl rfl ?_; intro w h; dsimp only [updG, setO] at h) | (refine h.storB 3 0 ⟨_, rfl, rfl⟩ rfl rfl rfl ?_; intro w h; dsimp only [updG, setO] at h) | (refine h.drew.storB 0 0 ⟨_, rfl, rfl⟩ rfl rfl rfl ?_; intro w h; dsimp only [updG, setO] at h) | (refine h.drew.storB 1 0 ⟨_, rfl, rfl⟩ rfl rfl rfl ?_; intro w h; dsimp only [updG, setO] at h) | (refine h.drew.storB 2 0 ⟨_, rfl, rfl⟩ rfl rfl rfl ?_; intro w h; dsimp only [updG, setO] at h) | (refine h.drew.storB 3 0 ⟨_, rfl, rfl⟩ rfl rfl rfl ?_; intro w h; dsimp only [updG, setO] at h))) | ((with_reducible refine RunN.isBox ?_); (first | (refine h.newB run_boxA rfl ?_; intro bn w h; try dsimp only at h) | (refine h.drew.newB run_boxA rfl ?_; intro bn w h; try dsimp only at h))) | ((with_reducible refine RunN.isNew ?_); (first | (refine h.newB (NewC.run _) rfl ?_; intro bn w h) | (refine h.drew.newB (NewC.run _) rfl ?_; intro bn w h))))
                    have h := h.back 12
                    dsimp only [insO] at h
                    refine (ratP h hR1 hR2 (i := i)).mono ?_
                    rintro r w ⟨f', t', q', m', e', p2, rfl, ht2, h⟩
                    refine h.storA 13 0 ⟨_, rfl, rfl⟩ rfl (hk := ?_)
                    intro w h
                    dsimp only [updG, setO] at h
                    simp only [List.take_zero, List.drop, List.nil_append, List.append_nil, Nat.zero_add] at h
                    obtain ⟨rfl, rfl, rfl, rfl, hml, hQ, hC, ok'⟩ := told_both ok ht1 ht2
                    refine h.loadA 14 0 ⟨_, rfl, rfl⟩ rfl (f', t', q, ()) (hk := ?_)
                    refine h.loadA 13 0 ⟨_, rfl, rfl⟩ rfl (f', t', q', ()) (hk := ?_)
                    have h := (h.drop 2).back 11
                    dsimp only [delO, insO] at h
                    have hQ2 : p2.Q = p1.Q := hQ.trans hQ1.symm
                    rw [← hQ2]
                    refine (letter_st h ok' hn hml (fun w h => h.rd (k := 0) (i := 0) ⟨_, rfl, rfl⟩)).mono ?_
                    rintro r w ⟨rfl, p', h1, h2, h3, h⟩
                    exact ⟨rfl, p', h1, h2.trans hC, h3, ((h.drop 10).drop 10).drop 10⟩
              · exact ⟨rfl, p, rfl, rfl, ok.mono (Nat.le_succ n), h.drop 0⟩
end Go.Proofs.Ytmhjlngkdppgpaa
