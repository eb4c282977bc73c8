/- Three Appends at one place, torn. -/
import Derived.Test.YtimebochhbfkgaaJkLa
namespace Go.Proofs.Ytimebochhbfkgaa
open Go Go.Fw Go.RowKit
set_option linter.unusedVariables false
set_option linter.unusedSimpArgs false
set_option maxRecDepth 4000
set_option maxHeartbeats 2000000
variable {w0 w : World} {F G : Grps} {d : D} {j : J} {bt : Nat} {s : Sl} {L own : List Bs} {dp : Option Addr}
instance : Ar Try.prog 55 3 := Ar.of (e := 3) (by kernel_rfl) (by kernel_rfl)
instance : Ar Try.prog 56 3 := Ar.of (e := 31) (by kernel_rfl) (by kernel_rfl)
instance : NewC Try.prog 56 [.slice none 0 0, .slice none 0 0, .slice none 0 0] := ⟨fun _ => by kernel_rfl⟩
instance : Ag Try.prog 56 3 := ⟨by kernel_rfl⟩

theorem arm_any (h : St w0 w (dg d :: F)) (ok : DOk d) : CallK Try.prog (.tup .nilT) 23 #[.pointer d.p, .int .i64 (-1), .int .i64 0] w fun _ w' =>
    ∃ d', d'.b = d.b ∧ d'.abs.ims = d.abs.ims ∧ d'.wr = d.wr ∧ d'.secs.length = d.secs.length ∧ DOk d' ∧ St w0 w' (dg d' :: F) := by
  refine (arm_st h ok (-1) 0 (by decide)).mono ?_
  rintro ⟨⟩ w ⟨d2, hb2, hd2, ok2, h⟩
  have him : d2.abs.ims = d.abs.ims := by
    rw [hd2]; unfold A.arm; split <;> rfl
  refine ⟨d2, hb2, him, ?_, ?_, ok2, h⟩
  · have := congrArg A.wr hd2
    rw [abs_wr] at this
    rw [this]; unfold A.arm; split <;> rfl
  · have := congrArg List.length him
    simpa using this
/-- The beginning of bytes that were handed in. -/
theorem cut_st {wi : World} {x : Sl} {c : List UInt8} (hx : Rd wi x 1 (bys c)) (m : Nat) : ∃ y : Sl, (c.length ≤ m → y = x) ∧ (m < c.length → y = subS x 0 m 1) ∧ Rd wi y 1 (bys (c.take m)) ∧ y.len = (c.take m).length := by
  have hl := hx.bys_len
  rcases Nat.lt_or_ge m c.length with h | h
  · have := hx.pre (hi := m) (by omega)
    rw [bys_take] at this
    exact ⟨_, fun h => by omega, fun _ => rfl, this, this.bys_len⟩
  · refine ⟨x, fun _ => rfl, fun h => by omega, ?_, ?_⟩
    · rw [List.take_of_length_le h]; exact hx
    · rw [List.take_of_length_le h]; exact hl
theorem law6 {wi : World} {p qa qb qc : Sl} {B : List Bs} {a b c : List UInt8} (hp : Recs wi p B) (ha : Rd wi qa 1 (bys a)) (hb : Rd wi qb 1 (bys b)) (hc : Rd wi qc 1 (bys c)) {s0 s1 s2 t0 t1 t2 : Int}
    (hs : ∀ x ∈ [s0, s1, s2], -9223372036854775808 ≤ x ∧ x ≤ 9223372036854775807) (ht : ∀ x ∈ [t0, t1, t2], -9223372036854775808 ≤ x ∧ x ≤ 9223372036854775807) :
    CallK Try.prog .bool 6 #[.slice p.a p.len p.cap, .slice qa.a qa.len qa.cap, .slice qb.a qb.len qb.cap, .slice qc.a qc.len qc.cap, .agg #[.int .i64 s0, .int .i64 s1, .int .i64 s2], .agg #[.int .i64 t0, .int .i64 t1, .int .i64 t2]] wi fun (r : Bool) w' => Upd wi w' nobody ∧ r = true := by
  have h := St.init wi
  have hpl := hp.len
  refine T6.calls (p4 := (s0, s1, s2, ())) (p5 := (t0, t1, t2, ())) ?_
  unfold T6
  refine h.newB run_boxA rfl ?_
  intro b1 w h
  refine h.newB run_boxA rfl ?_
  intro b2 w h
  refine (new_st h (n := 60) (by decide) (by decide)).mono ?_
  rintro r w ⟨bd, s, rfl, h⟩
  have ok := fresh_ok bd s (n := 60) (by decide)
  have him : (fresh bd s 60).abs.ims = zer 60 := fresh_ims _ _ _
  have hwr : (fresh bd s 60).wr = 0 := rfl
  have hsl : (fresh bd s 60).secs.length = 60 := by simp [fresh]
  have hfo : (fresh bd s 60).off = false := rfl
  have hfa : (fresh bd s 60).armed = false := rfl
  have hpp : (some ⟨bd, 0, none⟩ : Option Addr) = (fresh bd s 60).p := rfl
  dsimp only
  rw [hpp]
  generalize fresh bd s 60 = d at h ok him hwr hsl hfo hfa
  refine JoinX.mk (fun jv w' => jv.1 = false ∧ St wi w' (dg d :: [.cel b2 55 [.int .i64 t0, .int .i64 t1, .int .i64 t2]] :: [.cel b1 55 [.int .i64 s0, .int .i64 s1, .int .i64 s2]] :: [])) ?_ ?_
  · rintro ⟨_, ⟨⟩⟩ w ⟨hj, h⟩
    dsimp only at hj h ⊢
    subst hj
    rw [SplitB_iff]
    refine ⟨(fun hz => by cases hz), fun _ => ?_⟩
    have h := h.nilrow 31 1
    refine h.newB run_boxA rfl ?_
    intro bt w h
    have h := St.one.2 h
    have h := h.ord 2 [1, 0]
    dsimp only [pick, nthO, dropO] at h
    have h : St wi w (dg d :: tg bt d.p ⟨none, 0, 0⟩ [] [] :: [.cel b2 55 [.int .i64 t0, .int .i64 t1, .int .i64 t2]] :: [.cel b1 55 [.int .i64 s0, .int .i64 s1, .int .i64 s2]] :: []) := h
    refine (opened_st h ok (fun x hx => by cases hx) (p := ⟨none, 0, 0⟩) (c := []) (fun w h => Rd.nil _ _) (perhaps := false) (.inl (by rw [him]; exact zer_good _))).mono ?_
    rintro r w ⟨j, s', L, own, rfl, jok, hjd, hrec, hsc, hfr, hown, h⟩
    first | refine RunN.pEqS ?_ | refine RunN.pEqN ?_ | refine RunN.pNeS ?_ | refine RunN.pNeN ?_
    rw [SplitB_iff]
    refine ⟨(fun hz => by cases hz), fun _ => ?_⟩
    have hd0 : ({ d with off := false } : D) = d := by rw [← hfo]
    rw [hd0] at jok h
    have hl0 : j.recs = [] ∧ j.next = 0 := by
      have : Opened d.abs.ims (j.recs.map (·.2)) j.next := ⟨hsc, recAt_fresh hfr⟩
      rw [him] at this
      have := zer_opened this
      simpa using this
    refine LoopX.mk (fun st w' => ∃ (k : Nat) (e : D) (i : J) (s' : Sl) (L own : List Bs), k ≤ B.length ∧ k ≤ 3 ∧ st.1 = (k : Int) ∧ e.b = d.b ∧ i.b = j.b ∧ Lv e i ∧ e.secs.length = 60 ∧ e.wr ≤ 17 * k ∧ i.next ≤ 3 * k ∧ i.recs.map (·.2) = L.map (·.2) ∧ Scan e.abs.ims (i.recs.map (·.2)) i.next ∧ Fresh (e.abs.ims.drop i.next) ∧ Owns wi L own ∧
        St wi w' (dg e :: jg i e.p :: tg bt e.p s' L own :: [.cel b2 55 [.int .i64 t0, .int .i64 t1, .int .i64 t2]] :: [.cel b1 55 [.int .i64 s0, .int .i64 s1, .int .i64 s2]] :: [])) (fun st => B.length - st.1.toNat)
      ⟨0, d, j, s', L, own, Nat.zero_le _, by decide, rfl, rfl, rfl, ⟨ok, jok, hfo, hfa, hjd⟩, hsl, by rw [hwr]; decide, by rw [hl0.2]; decide, hrec, hsc, hfr, hown, h⟩ ?_
    clear h hrec hsc hfr hown hl0 jok hjd hd0
    rintro ⟨_, ⟨⟩⟩ w ⟨k, e, i, s', L, own, hk, hk3, rfl, heb, hib, lv, hes, hew, hin, hrec, hsc, hfr, hown, h⟩ K hK
    dsimp only at h hK ⊢
    have hjp : j.p = i.p := by rw [J.p, J.p, hib]
    have hdp : d.p = e.p := by rw [D.p, D.p, heb]
    have hL3 : L.length ≤ 65536 := by
      have h1 := congrArg List.length hrec
      have h2 := lv.jok.recs
      simp at h1; omega
    refine JoinX.mk (fun jv w' => jv.1 = decide (k < B.length ∧ k < 3) ∧ w' = w) ?_ ?_
    · rintro ⟨_, ⟨⟩⟩ w' ⟨hj, hw⟩
      dsimp only at hj ⊢
      subst hj
      rw [hw]
      rw [SplitB_iff]
      refine ⟨fun hz => ?_, fun hz => ?_⟩
      · obtain ⟨hz, hz3⟩ := of_decide_eq_true hz
        obtain ⟨hx1, hx2⟩ := hp.2 _ (List.getElem_mem hz)
        have hxl := hx1.bys_len
        refine (h.old hp.1).idxK k rfl (by omega) ?_
        intro b o hb'
        refine (h.old hp.1).el hb' (k * 1) rfl (kd := .sl) (x := B[k].1) (by rw [Nat.mul_one, lsl_at hz]; rfl) ?_
        obtain ⟨y, hy1, hy2, hyr, hyl⟩ := cut_st hx1 1000
        refine JoinX.mk (fun jv w' => jv.1 = y ∧ w' = w) ?_ ?_
        · rintro ⟨_, ⟨⟩⟩ w' ⟨hj, hw⟩
          dsimp only at hj ⊢
          have hj := hj.symm
          subst hj
          rw [hw]
          have hyi : (y.len : Int) = ((B[k].2.take 1000).length : Int) := by rw [hyl]
          have hcl : (B[k].2.take 1000).length ≤ 1000 := by simp; omega
          generalize B[k].2.take 1000 = cc at hyr hyl hyi hcl
          refine (lent_st h (h.old hyr) (by omega)).mono ?_
          rintro t w ⟨htl, h⟩
          have htcap := (h.rd (k := 0) (i := 0) ⟨_, rfl, rfl⟩).2.2
          refine RunN.sH (s := t) cc.length hyi (by omega) ?_
          have h := h.ord 4 [1, 2, 0, 3]
          dsimp only [pick, nthO, dropO] at h
          rw [hjp]
          have hc3 : cnt cc.length ≤ 3 := by unfold cnt; omega
          have hrd : ∀ w, St wi w ([.row 5 1 t (bys (cc ++ [0xA5, 0x5A]))] :: tg bt e.p s' L own :: [.cel b2 55 [.int .i64 t0, .int .i64 t1, .int .i64 t2]] :: [.cel b1 55 [.int .i64 s0, .int .i64 s1, .int .i64 s2]] :: []) → Rd w (subS t 0 cc.length 1) 1 (bys cc) := fun w h => by
            have := (h.rd (k := 0) (i := 0) ⟨_, rfl, rfl⟩).pre (hi := cc.length) (by omega)
            rw [bys_take, List.take_append_of_le_length (Nat.le_refl _), List.take_of_length_le (Nat.le_refl _)] at this
            exact this
          refine (append_case h lv.ok lv.jok lv.dead lv.off (by omega) hsc hfr (p := subS t 0 cc.length 1) (c := cc) hrd).mono ?_
          rintro r w ⟨d2, j2, hb2, hjb2, ok2, jok2, hsl2, hwr2, h, hcase⟩
          have hp2 : d2.p = e.p := by rw [D.p, D.p, hb2]
          rcases hcase with ⟨⟨h8, _⟩ | ⟨_, _, hroom⟩, _, _⟩ | ⟨hc8, rfl, hrec2, hnx2, hdead2, hoff2, harm2, hsc2, hfr2⟩ | ⟨_, _, harm2, _⟩
          · omega
          · omega
          · rw [SplitB_iff]
            refine ⟨(fun hz => by simp at hz), fun _ => ?_⟩
            have h := h.ord 4 [0, 1, 3]
            dsimp only [pick, nthO, dropO] at h
            rw [← hp2] at h
            have hsl3 := tg_len h (k := 2) rfl
            try (with_reducible refine NilP.mk ?_)
            refine h.loadB 2 0 ⟨_, rfl, rfl⟩ rfl rfl ?_
            refine h.newS 1 (bs22 _ _ _ _) rfl rfl rfl ?_
            intro u w hul huc _ h
            refine h.app 3 1 ⟨_, rfl, rfl⟩ (h.rd (k := 0) (i := 0) ⟨_, rfl, rfl⟩) one_slice (by simp only [maxLen]; omega) (by omega) ?_
            intro s9 w hs9 h
            dsimp only [updG, setO, tg] at h
            have h := h.drop 0
            dsimp only [delO] at h
            try (with_reducible refine NilP.mk ?_)
            refine h.storB 2 0 ⟨_, rfl, rfl⟩ rfl rfl rfl ?_
            intro w h
            dsimp only [updG, setO] at h
            have h2 : St wi w (dg d2 :: jg j2 d2.p :: tg bt d2.p s9 (L ++ [(y, cc)]) own :: [.cel b2 55 [.int .i64 t0, .int .i64 t1, .int .i64 t2]] :: [.cel b1 55 [.int .i64 s0, .int .i64 s1, .int .i64 s2]] :: []) := by
              unfold tg
              rw [lsl_snoc]
              exact h
            refine hK _ _ ⟨k + 1, d2, j2, s9, L ++ [(y, cc)], own, hz, by omega, by dsimp only; rw [wr (by omega)]; omega, hb2.trans heb, hjb2.trans hib, ⟨ok2, jok2, hoff2, ?_, hdead2⟩, hsl2.trans hes, by omega, by omega, by rw [hrec2, hrec]; simp, hsc2, hfr2, ?_, h2⟩ (by dsimp only; rw [wr (by omega)]; omega)
            · cases hx : d2.armed with
              | false => rfl
              | true => have := harm2 hx; rw [lv.armed] at this; cases this
            · intro z hz
              rcases List.mem_append.1 hz with hz | hz
              · exact hown z hz
              · simp at hz; subst hz; exact .inr hyr
          · rw [lv.armed] at harm2; cases harm2
        · intro k7 hk7
          rw [SplitB_iff]
          refine ⟨fun hy => ?_, fun hy => ?_⟩
          · have hy : (B[k].1.len : Int) > 1000 := of_decide_eq_true hy
            have hcap := hx1.2.2
            refine RunN.sH (s := B[k].1) 1000 rfl (by omega) ?_
            exact hk7 _ _ ⟨(hy2 (by omega)).symm, rfl⟩
          · have hy : ¬ (B[k].1.len : Int) > 1000 := of_decide_eq_false hy
            exact hk7 _ _ ⟨(hy1 (by omega)).symm, rfl⟩
      · refine h.newB (NewC.run _) rfl ?_
        intro b3 w h
        refine h.storA 0 0 ⟨_, rfl, rfl⟩ rfl (ds := [.slice qa.a qa.len qa.cap, .slice qb.a qb.len qb.cap, .slice qc.a qc.len qc.cap]) rfl rfl rfl ?_
        intro w h
        dsimp only [updG, setO] at h
        have h : St wi w ([.cel b3 56 [.slice qa.a qa.len qa.cap, .slice qb.a qb.len qb.cap, .slice qc.a qc.len qc.cap]] :: dg e :: jg i e.p :: tg bt e.p s' L own :: [.cel b2 55 [.int .i64 t0, .int .i64 t1, .int .i64 t2]] :: [.cel b1 55 [.int .i64 s0, .int .i64 s1, .int .i64 s2]] :: []) := h
        have h := h.ord 4 [1, 2, 3, 0]
        dsimp only [pick, nthO, dropO] at h
        refine LoopX.mk (fun st w' => ∃ (m : Nat) (e : D) (i : J) (s' : Sl) (L own : List Bs), m ≤ 3 ∧ st.2.1 = (m : Int) ∧ st.1 = i.p ∧ e.b = d.b ∧ DOk e ∧ JOk i e ∧ i.dead = false ∧ e.off = false ∧ e.secs.length = 60 ∧ e.wr ≤ 51 + 1037 * m ∧ i.recs.map (·.2) = L.map (·.2) ∧ Scan e.abs.ims (i.recs.map (·.2)) i.next ∧ Fresh (e.abs.ims.drop i.next) ∧ Owns wi L own ∧
            St wi w' (dg e :: jg i e.p :: tg bt e.p s' L own :: [.cel b3 56 [.slice qa.a qa.len qa.cap, .slice qb.a qb.len qb.cap, .slice qc.a qc.len qc.cap]] :: [.cel b2 55 [.int .i64 t0, .int .i64 t1, .int .i64 t2]] :: [.cel b1 55 [.int .i64 s0, .int .i64 s1, .int .i64 s2]] :: [])) (fun st => 3 - st.2.1.toNat)
          ⟨0, e, i, s', L, own, by decide, rfl, hjp, heb, lv.ok, lv.jok, lv.dead, lv.off, hes, by omega, hrec, hsc, hfr, hown, h⟩ ?_
        clear h hrec hsc hfr hown hL3 hdp hjp hes hew hin heb hib lv hK
        rintro ⟨_, _, ⟨⟩⟩ w ⟨m, e, i, s', L, own, hm, rfl, rfl, heb, ok, jok, hid, heo, hes, hew, hrec, hsc, hfr, hown, h⟩ K hK
        dsimp only at h hK ⊢
        have hdp : d.p = e.p := by rw [D.p, D.p, heb]
        rw [SplitB_iff]
        refine ⟨fun hz => ?_, fun _ => ⟨h.upd, rfl⟩⟩
        have hz : m < 3 := by have := of_decide_eq_true hz; omega
        have htri : ∃ (x : Sl) (cx : List UInt8) (sv tv : Int), nthO [Value.slice qa.a qa.len qa.cap, .slice qb.a qb.len qb.cap, .slice qc.a qc.len qc.cap] (0 + m) = some (.slice x.a x.len x.cap) ∧ nthO [Value.int .i64 s0, .int .i64 s1, .int .i64 s2] (0 + m) = some (.int .i64 sv) ∧ nthO [Value.int .i64 t0, .int .i64 t1, .int .i64 t2] (0 + m) = some (.int .i64 tv) ∧
            Rd wi x 1 (bys cx) ∧ (-9223372036854775808 ≤ sv ∧ sv ≤ 9223372036854775807) ∧ (-9223372036854775808 ≤ tv ∧ tv ≤ 9223372036854775807) := by
          rcases (show m = 0 ∨ m = 1 ∨ m = 2 by omega) with rfl | rfl | rfl
          · exact ⟨qa, a, s0, t0, rfl, rfl, rfl, ha, hs _ (by simp), ht _ (by simp)⟩
          · exact ⟨qb, b, s1, t1, rfl, rfl, rfl, hb, hs _ (by simp), ht _ (by simp)⟩
          · exact ⟨qc, c, s2, t2, rfl, rfl, rfl, hc, hs _ (by simp), ht _ (by simp)⟩
        obtain ⟨x, cx, sv, tv, hn1, hn2, hn3, hxr, hsv, htv⟩ := htri
        have hxl := hxr.bys_len
        refine RunN.arr rfl m rfl hz ?_
        refine h.loadB 3 0 ⟨_, rfl, rfl⟩ rfl (kd := .sl) (x := x) hn1 ?_
        obtain ⟨y, hy1, hy2, hyr, hyl⟩ := cut_st hxr 4000
        refine JoinX.mk (fun jv w' => jv.1 = y ∧ w' = w) ?_ ?_
        · rintro ⟨_, ⟨⟩⟩ w' ⟨hj, hw⟩
          dsimp only at hj ⊢
          have hj := hj.symm
          subst hj
          rw [hw]
          have hcl : (cx.take 4000).length ≤ 4000 := by simp; omega
          generalize cx.take 4000 = cc at hyr hyl hcl
          refine RunN.arr rfl m rfl hz ?_
          refine h.loadB 4 0 ⟨_, rfl, rfl⟩ rfl (kd := .int .i64) (x := tv) hn3 ?_
          refine (within_ok (by decide) (by decide) htv).mono ?_
          rintro r w' ⟨hw, nt, rfl, hnt⟩
          rw [hw, wr (x := (nt : Int) - 512) (by omega), wr (x := (nt : Int) - 512 + 513) (by omega)]
          refine JoinX.mk (fun jv w' => w' = w) ?_ ?_
          · rintro ⟨tn, ⟨⟩⟩ w' hw
            dsimp only
            rw [hw]
            refine h.newS 1 (bs22 _ _ _ _) rfl rfl rfl ?_
            intro u w hul huc _ h
            refine RunN.arr rfl m rfl hz ?_
            refine h.loadB 6 0 ⟨_, rfl, rfl⟩ rfl (kd := .int .i64) (x := sv) hn2 ?_
            refine (within_ok (by decide) (by decide) hsv).mono ?_
            rintro r w' ⟨hw, ns, rfl, hns⟩
            rw [hw]
            have h := h.ord 4 [1, 2, 3, 0]
            dsimp only [pick, nthO, dropO] at h
            refine (life_st h ok jok hid heo hrec hsc hfr hown (by omega) (R := u) (Rl := [(y, cc)]) (fun w h => ⟨h.rd (k := 0) (i := 0) ⟨_, rfl, rfl⟩, fun z hz => by
              simp only [List.mem_cons, List.not_mem_nil, or_false] at hz; subst hz; exact h.old hyr⟩) (fun z hz => by
              simp only [List.mem_cons, List.not_mem_nil, or_false] at hz; subst hz; dsimp only; omega) (by simp) (Af := (ns : Int)) (T := tn) (idle := false) (by omega)).mono ?_
            rintro r w ⟨d2, s2, L2, own2, hb2, ok2, hsl2, hwr2, hown2, h, hres⟩
            have hp2 : d2.p = e.p := by rw [D.p, D.p, hb2]
            have hres2 : ∃ (my : Sl) (pe : Bool), r = (my, pe, true, ()) ∧ (Good d2.abs.ims (L2.map (·.2)) ∨ pe = true ∧ Good d2.abs.ims (L2.map (·.2) ++ [cc])) := by
              rcases hres with ⟨rfl, hg⟩ | ⟨z, hz, rfl, hg⟩
              · exact ⟨_, _, rfl, .inl hg⟩
              · simp only [List.mem_cons, List.not_mem_nil, or_false] at hz
                subst hz
                refine ⟨_, _, rfl, ?_⟩
                rcases hg with hg | hg
                · exact .inl hg
                · exact .inr ⟨rfl, hg⟩
            obtain ⟨my, pe, rfl, hg⟩ := hres2
            dsimp only
            rw [SplitB_iff]
            refine ⟨(fun hz => by cases hz), fun _ => ?_⟩
            rw [hdp, ← hp2]
            rw [← hp2] at h
            refine (arm_any h ok2).mono ?_
            rintro ⟨⟩ w ⟨d3, hb3, him3, hwr3, hsl3, ok3, h⟩
            have hp3 : d2.p = d3.p := by rw [D.p, D.p, hb3]
            rw [hp3] at h
            refine (opened_st h ok3 hown2 (p := y) (c := cc) (fun w h => h.old hyr) (perhaps := pe) (by rw [him3]; exact hg)).mono ?_
            rintro r w ⟨j4, s4, L4, own4, rfl, jok4, hjd4, hrec4, hsc4, hfr4, hown4, h⟩
            first | refine RunN.pEqS ?_ | refine RunN.pEqN ?_ | refine RunN.pNeS ?_ | refine RunN.pNeN ?_
            rw [SplitB_iff]
            refine ⟨(fun hz => by cases hz), fun _ => ?_⟩
            have h := h.ord 4 [0, 1, 2]
            dsimp only [pick, nthO, dropO] at h
            have ok4 : DOk { d3 with off := false } := ⟨ok3.tr, ok3.full, ok3.small, ok3.w0, ok3.torn, ok3.after⟩
            exact hK _ _ ⟨m + 1, { d3 with off := false }, j4, s4, L4, own4, by omega, by dsimp only; rw [wr (by omega)]; omega, rfl, hb3.trans (hb2.trans heb), ok4, jok4, hjd4, rfl, by dsimp only; omega, by dsimp only; omega, hrec4, hsc4, hfr4, hown4, h⟩ (by dsimp only; rw [wr (by omega)]; omega)
          · intro k13 hk13
            rw [SplitB_iff]
            exact ⟨fun _ => hk13 _ _ rfl, fun _ => hk13 _ _ rfl⟩
        · intro k11 hk11
          rw [SplitB_iff]
          refine ⟨fun hy => ?_, fun hy => ?_⟩
          · have hy : (x.len : Int) > 4000 := of_decide_eq_true hy
            have hcap := hxr.2.2
            refine RunN.sH (s := x) 4000 rfl (by omega) ?_
            exact hk11 _ _ ⟨(hy2 (by omega)).symm, rfl⟩
          · have hy : ¬ (x.len : Int) > 4000 := of_decide_eq_false hy
            exact hk11 _ _ ⟨(hy1 (by omega)).symm, rfl⟩
    · intro k5 hk5
      rw [SplitB_iff]
      refine ⟨fun hz => ?_, fun hz => ?_⟩
      · have hz : k < B.length := by
          have h1 : (k : Int) < (p.len : Int) := of_decide_eq_true hz
          omega
        refine hk5 _ _ ⟨?_, rfl⟩
        dsimp only
        exact decide_eq_decide.2 (by omega)
      · have hz : ¬ k < B.length := by
          have h1 : ¬ (k : Int) < (p.len : Int) := of_decide_eq_false hz
          omega
        refine hk5 _ _ ⟨?_, rfl⟩
        dsimp only
        exact (decide_eq_false (by omega)).symm
  · intro k hk
    refine (able_st h).mono ?_
    rintro r w ⟨rfl, h⟩
    rw [SplitB_iff]
    refine ⟨(fun hz => by cases hz), fun _ => ?_⟩
    first | refine RunN.pEqS ?_ | refine RunN.pEqN ?_ | refine RunN.pNeS ?_ | refine RunN.pNeN ?_
    rw [SplitB_iff]
    exact ⟨(fun hz => by cases hz), fun _ => hk _ _ ⟨rfl, h⟩⟩
end Go.Proofs.Ytimebochhbfkgaa
