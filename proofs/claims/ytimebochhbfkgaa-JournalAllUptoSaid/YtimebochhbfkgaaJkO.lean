/- A life of a disk: records that are appended, and power that may fail. -/
import Derived.Test.YtimebochhbfkgaaJkN
namespace Go.Proofs.Ytimebochhbfkgaa
open Go Go.Fw Go.RowKit
set_option linter.unusedVariables false
set_option linter.unusedSimpArgs false
set_option maxRecDepth 4000
set_option maxHeartbeats 2000000
variable {w0 w : World} {F G : Grps} {d : D} {j : J} {bt : Nat} {s : Sl} {L own : List Bs} {dp : Option Addr}

theorem life_st (h : St w0 w (dg d :: jg j d.p :: tg bt d.p s L own :: F)) (ok : DOk d) (jok : JOk j d) (hd : j.dead = false) (ho : d.off = false) (hrec : j.recs.map (·.2) = L.map (·.2)) (hs : Scan d.abs.ims (j.recs.map (·.2)) j.next) (hf : Fresh (d.abs.ims.drop j.next)) (hown : Owns w0 L own)
    (hw : d.wr ≤ 2300000000000000000) {R : Sl} {Rl : List Bs} (hR : ∀ w, St w0 w F → Rd w R 1 (lsl Rl) ∧ ∀ x ∈ Rl, Rd w x.1 1 (bys x.2)) (hRl : ∀ x ∈ Rl, x.2.length ≤ 140737488351232) (hRn : Rl.length ≤ 140737488351232) {Af T : Int} {idle : Bool} (hA : Af ≤ 9223372036854775807) :
    CallK Try.prog (.tup (.cons .sl (.cons .bool (.cons .bool .nilT)))) 22 #[.pointer (some ⟨bt, 0, none⟩), .pointer j.p, .agg #[.slice R.a R.len R.cap, .int .i64 Af, .int .i64 T, .bool idle]] w fun (r : Sl × Bool × Bool × Unit) w' =>
      ∃ (d' : D) (s' : Sl) (L' own' : List Bs), d'.b = d.b ∧ DOk d' ∧ d'.secs.length = d.secs.length ∧ d'.wr ≤ d.wr + 17 * (d.secs.length + 1) ∧ Owns w0 L' own' ∧ St w0 w' (dg d' :: tg bt d.p s' L' own' :: F) ∧
        (r = (⟨none, 0, 0⟩, false, true, ()) ∧ Good d'.abs.ims (L'.map (·.2)) ∨ ∃ x ∈ Rl, r = (x.1, true, true, ()) ∧ (Good d'.abs.ims (L'.map (·.2)) ∨ Good d'.abs.ims (L'.map (·.2) ++ [x.2]))) := by
  have hsm := ok.small
  refine T22.calls (p2 := (R, Af, T, idle, ())) ?_
  unfold T22
  refine h.newB run_boxA rfl ?_
  intro b5 w h
  have h := h.ord 4 [1, 2, 3, 0]
  dsimp only [pick, nthO, dropO] at h
  try (with_reducible refine NilP.mk ?_)
  refine h.drew.readB 2 0 ⟨_, rfl, rfl⟩ rfl rfl ?_
  try (with_reducible refine NilP.mk ?_)
  refine h.drew.readB 3 0 ⟨_, rfl, rfl⟩ rfl rfl ?_
  try (with_reducible refine NilP.mk ?_)
  refine h.drew.readB 3 0 ⟨_, rfl, rfl⟩ rfl rfl ?_
  refine (arm_st h.drew ok Af T hA).mono ?_
  rintro ⟨⟩ w ⟨d1, hb1, hd1, ok1, h⟩
  have harm : d.abs.arm Af T = { d.abs with armed := decide (Af ≥ 0), after := Af, torn := min (max T 0) 512 } := by
    unfold A.arm
    rw [if_neg (by rw [abs_off, ho]; simp)]
  rw [harm] at hd1
  have hp1 : d1.p = d.p := by rw [D.p, D.p, hb1]
  have him1 : d1.abs.ims = d.abs.ims := by rw [hd1]
  have hsl1 : d1.secs.length = d.secs.length := by
    have := congrArg List.length him1
    simpa using this
  refine LoopX.mk (fun st w' => ∃ (k : Nat) (d' : D) (j' : J) (s' : Sl) (L' own' : List Bs), st.1 = (k : Int) ∧ k ≤ Rl.length ∧ d'.b = d.b ∧ j'.b = j.b ∧ DOk d' ∧ JOk j' d' ∧ d'.off = false ∧ j'.dead = false ∧ (d'.armed = true → 0 ≤ Af) ∧ d'.secs.length = d.secs.length ∧
      j'.recs.map (·.2) = L'.map (·.2) ∧ Scan d'.abs.ims (j'.recs.map (·.2)) j'.next ∧ Fresh (d'.abs.ims.drop j'.next) ∧ Owns w0 L' own' ∧ d'.wr ≤ d.wr + 17 * j'.next ∧
      St w0 w' (dg d' :: jg j' d.p :: tg bt d.p s' L' own' :: [.cel b5 51 [.slice R.a R.len R.cap, .int .i64 Af, .int .i64 T, .bool idle]] :: F)) (fun st => Rl.length - st.1.toNat)
    ⟨0, d1, j, s, L, own, rfl, Nat.zero_le _, hb1, rfl, ok1, ⟨by rw [hsl1]; exact jok.next, jok.recs, jok.len⟩, (congrArg A.off hd1).trans ho, hd, fun ha => by
      have : d1.armed = decide (Af ≥ 0) := congrArg A.armed hd1
      rw [this] at ha; exact of_decide_eq_true ha, hsl1, hrec, by rw [him1]; exact hs, by rw [him1]; exact hf, hown, by
      have : d1.wr = d.wr := congrArg A.wr hd1
      omega, h⟩ ?_
  clear h hd1 him1 hsl1 hp1 hb1 ok1 harm hown hf hs hrec
  rintro ⟨_, ⟨⟩⟩ w ⟨k, e, i, s, L, own, rfl, hk, hb, hjb, oke, joke, hoff, hdead, harm, hsl, hrec, hsc, hfr, hown, hwr, h⟩ K hK
  dsimp only at h hK ⊢
  have hp : e.p = d.p := by rw [D.p, D.p, hb]
  have hjp : j.p = i.p := by rw [J.p, J.p, hjb]
  have hin := joke.next
  have hRlen := (hR _ (h.ord 4 [])).1.1
  rw [lsl_len] at hRlen
  try (with_reducible refine NilP.mk ?_)
  refine h.loadB 3 0 ⟨_, rfl, rfl⟩ rfl rfl ?_
  rw [SplitB_iff]
  refine ⟨fun hz => ?_, fun hz => ?_⟩
  · have hz : k < Rl.length := by
      have h1 : (k : Int) < (R.len : Int) := of_decide_eq_true hz
      omega
    try (with_reducible refine NilP.mk ?_)
    refine h.loadB 3 0 ⟨_, rfl, rfl⟩ rfl rfl ?_
    refine (hR _ (h.ord 4 [])).1.idxK k rfl (by omega) ?_
    intro b o hb'
    refine (hR _ (h.ord 4 [])).1.el hb' (k * 1) rfl (kd := .sl) (x := Rl[k].1) (by rw [Nat.mul_one, lsl_at hz]; rfl) ?_
    have hmem := List.getElem_mem hz
    have hxr : ∀ w, St w0 w F → Rd w Rl[k].1 1 (bys Rl[k].2) := fun w h => (hR w h).2 _ hmem
    have hxl := (hxr _ (h.ord 4 [])).bys_len
    have hxi : (Rl[k].1.len : Int) = (Rl[k].2.length : Int) := by rw [hxl]
    have hxb := hRl _ hmem
    rw [hjp]
    rw [← hp] at h
    refine (room_st h oke joke).mono ?_
    rintro rm w ⟨rfl, h⟩
    rw [hdead, if_neg (by simp)]
    refine (lent_st h (hxr _ (h.ord 4 [])) (by omega)).mono ?_
    rintro t w ⟨htl, h⟩
    have htcap := (h.rd (k := 0) (i := 0) ⟨_, rfl, rfl⟩).2.2
    refine RunN.sH (s := t) Rl[k].2.length hxi (by omega) ?_
    have h := h.ord 5 [1, 2, 0, 3, 4]
    dsimp only [pick, nthO, dropO] at h
    refine (append_case h oke joke hdead hoff (by omega) hsc hfr (p := subS t 0 Rl[k].2.length 1) (c := Rl[k].2) (fun w h => by
      have := (h.rd (k := 0) (i := 0) ⟨_, rfl, rfl⟩).pre (hi := Rl[k].2.length) (by omega)
      rw [bys_take, List.take_append_of_le_length (Nat.le_refl _), List.take_of_length_le (Nat.le_refl _)] at this
      exact this)).mono ?_
    rintro r w ⟨d2, j2, hb2, hjb2, ok2, jok2, hsl2, hwr2, h, hcase⟩
    have h := h.ord 5 [0, 1, 3, 4]
    dsimp only [pick, nthO, dropO] at h
    have hp2 : d2.p = e.p := by rw [D.p, D.p, hb2]
    have hjp2 : i.p = j2.p := by rw [J.p, J.p, hjb2]
    have hin2 := jok2.next
    refine JoinX.mk (fun _ w' => ∃ (d' : D) (j' : J) (s' : Sl) (L' own' : List Bs), d'.b = d.b ∧ j'.b = j.b ∧ DOk d' ∧ JOk j' d' ∧ d'.off = false ∧ j'.dead = false ∧ (d'.armed = true → 0 ≤ Af) ∧ d'.secs.length = d.secs.length ∧
      j'.recs.map (·.2) = L'.map (·.2) ∧ Scan d'.abs.ims (j'.recs.map (·.2)) j'.next ∧ Fresh (d'.abs.ims.drop j'.next) ∧ Owns w0 L' own' ∧ d'.wr ≤ d.wr + 17 * j'.next ∧
      St w0 w' (dg d' :: jg j' d'.p :: tg bt d'.p s' L' own' :: [.cel b5 51 [.slice R.a R.len R.cap, .int .i64 Af, .int .i64 T, .bool idle]] :: F)) ?_ ?_
    · rintro ⟨⟩ w ⟨d', j', s', L', own', hb', hjb', ok', jok', hoff', hdead', harm', hsl', hrec', hsc', hfr', hown', hwr', h⟩
      have hp' : d'.p = d.p := by rw [D.p, D.p, hb']
      have hjp' : i.p = j'.p := by rw [J.p, J.p, hjb', hjb]
      have hll : j'.recs.length = L'.length := by have := congrArg List.length hrec'; simpa using this
      have hsl3 := tg_len h (k := 2) rfl
      rw [hjp']
      refine JoinX.mk (fun jv w' => jv.1 = false ∧ St w0 w' (dg d' :: jg j' d'.p :: tg bt d'.p s' L' own' :: [.cel b5 51 [.slice R.a R.len R.cap, .int .i64 Af, .int .i64 T, .bool idle]] :: F)) ?_ ?_
      · rintro ⟨_, ⟨⟩⟩ w ⟨hj, h⟩
        dsimp only at hj h ⊢
        subst hj
        rw [SplitB_iff]
        refine ⟨(fun hz => by cases hz), fun _ => ?_⟩
        rw [hp'] at h
        exact hK _ _ ⟨k + 1, d', j', s', L', own', by dsimp only; rw [wr (by omega)]; omega, hz, hb', hjb', ok', jok', hoff', hdead', harm', hsl', hrec', hsc', hfr', hown', hwr', h⟩ (by dsimp only; rw [wr (by omega)]; omega)
      · intro k5 hk5
        refine (dead_st h.drew).mono ?_
        rintro r w ⟨rfl, h⟩
        rw [hdead', SplitB_iff]
        refine ⟨fun _ => ?_, (fun hz => by cases hz)⟩
        try (with_reducible refine NilP.mk ?_)
        refine h.readB 2 0 ⟨_, rfl, rfl⟩ rfl rfl ?_
        refine (len_st h).mono ?_
        rintro r w ⟨rfl, h⟩
        rw [hdead', if_neg (by simp)]
        refine ⟨h.stillB 2 0 ⟨_, rfl, rfl⟩ rfl rfl, ?_⟩
        refine hk5 _ _ ⟨?_, h⟩
        dsimp only
        rw [hll, hsl3]; simp
    · intro k3 hk3
      rcases hcase with ⟨hc, ha2, hd2⟩ | ⟨hc8, hr, hrec2, hnx2, hdead2, hoff2, harm2, hsc2, hfr2⟩ | ⟨hc8, hr, harm2, hoff2, harm3, hdead2, hgood⟩
      · -- refused
        have hdead2 : j2.dead = false := (congrArg JA.dead ha2).trans hdead
        have hnx2 : j2.next = i.next := congrArg JA.next ha2
        have hrec2 : j2.recs.map (·.2) = i.recs.map (·.2) := congrArg JA.recs ha2
        have hwr3 : d2.wr = e.wr := congrArg A.wr hd2
        have him2 : d2.abs.ims = e.abs.ims := congrArg A.ims hd2
        have fin : ∀ w, St w0 w (dg d2 :: jg j2 d2.p :: tg bt d2.p s L own :: [.cel b5 51 [.slice R.a R.len R.cap, .int .i64 Af, .int .i64 T, .bool idle]] :: F) → k3 () w := fun w h =>
          hk3 _ _ ⟨d2, j2, s, L, own, hb2.trans hb, hjb2.trans hjb, ok2, jok2, (congrArg A.off hd2).trans hoff, hdead2, fun ha => harm ((congrArg A.armed hd2).symm.trans ha), hsl2.trans hsl, hrec2.trans hrec, by rw [him2, hrec2, hnx2]; exact hsc, by rw [him2, hnx2]; exact hfr, hown, by rw [hwr3, hnx2]; exact hwr, h⟩
        rw [← hp2] at h
        rw [SplitB_iff]
        refine ⟨fun hy => ?_, fun hy => ?_⟩
        · rcases hc with ⟨_, rfl⟩ | ⟨_, rfl, _⟩ <;> simp at hy
        refine (num_ok _).mono ?_
        rintro r1 w' ⟨hw', rfl⟩
        subst hw'
        rw [SplitB_iff]
        refine ⟨fun hy => ?_, fun hy => ?_⟩
        · rcases hc with ⟨_, rfl⟩ | ⟨_, rfl, _⟩ <;> simp at hy
        refine JoinX.mk (fun jv w' => jv.1 = false ∧ St w0 w' (dg d2 :: jg j2 d2.p :: tg bt d2.p s L own :: [.cel b5 51 [.slice R.a R.len R.cap, .int .i64 Af, .int .i64 T, .bool idle]] :: F)) ?_ ?_
        · rintro ⟨_, ⟨⟩⟩ w ⟨hj, h⟩
          dsimp only at hj h ⊢
          subst hj
          rw [SplitB_iff]
          refine ⟨(fun hz => by cases hz), fun _ => ?_⟩
          refine JoinX.mk (fun jv w' => jv.1 = false ∧ St w0 w' (dg d2 :: jg j2 d2.p :: tg bt d2.p s L own :: [.cel b5 51 [.slice R.a R.len R.cap, .int .i64 Af, .int .i64 T, .bool idle]] :: F)) ?_ ?_
          · rintro ⟨_, ⟨⟩⟩ w ⟨hj, h⟩
            dsimp only at hj h ⊢
            subst hj
            rw [SplitB_iff]
            exact ⟨(fun hz => by cases hz), fun _ => fin _ h⟩
          · intro k11 hk11
            rw [hxi, SplitB_iff]
            refine ⟨fun hy2 => ?_, fun hy => hk11 _ _ ⟨rfl, h⟩⟩
            have hy3 : (Rl[k].2.length : Int) > 8192 := of_decide_eq_true hy2
            refine (num_ok _).mono ?_
            rintro r1 w' ⟨hw', rfl⟩
            subst hw'
            refine hk11 _ _ ⟨?_, h⟩
            rcases hc with ⟨_, rfl⟩ | ⟨h8, rfl, _⟩
            · rfl
            · omega
        · intro k9 hk9
          rw [hxi, SplitB_iff]
          refine ⟨fun hy => ?_, fun hy => hk9 _ _ ⟨rfl, h⟩⟩
          have hy : (Rl[k].2.length : Int) ≤ 8192 := of_decide_eq_true hy
          rcases hc with ⟨h8, _⟩ | ⟨h8, rfl, hroom⟩
          · omega
          refine (num_ok 211).mono ?_
          rintro r1 w' ⟨hw', rfl⟩
          subst hw'
          rw [SplitB_iff]
          refine ⟨(fun hz => by simp at hz), fun _ => ?_⟩
          rw [SplitB_iff]
          refine ⟨fun hx => ?_, fun _ => ?_⟩
          · have hx : (e.secs.length : Int) - i.next ≥ 17 := of_decide_eq_true hx
            omega
          rw [hjp2]
          refine (room_st h ok2 jok2).mono ?_
          rintro r1 w ⟨rfl, h⟩
          refine hk9 _ _ ⟨?_, h⟩
          dsimp only
          rw [hdead2, hsl2, hnx2]; simp
      · -- written
        subst hr
        rw [SplitB_iff]
        refine ⟨fun _ => ?_, (fun hy => by simp at hy)⟩
        have hcp := cnt_pos Rl[k].2.length
        rw [← hp2] at h
        refine JoinX.mk (fun jv w' => jv.1 = false ∧ St w0 w' (dg d2 :: jg j2 d2.p :: tg bt d2.p s L own :: [.cel b5 51 [.slice R.a R.len R.cap, .int .i64 Af, .int .i64 T, .bool idle]] :: F)) ?_ ?_
        · rintro ⟨_, ⟨⟩⟩ w ⟨hj, h⟩
          dsimp only at hj h ⊢
          subst hj
          rw [SplitB_iff]
          refine ⟨(fun hz => by cases hz), fun _ => ?_⟩
          have hLl : L.length ≤ 65536 := by
            have h1 := congrArg List.length hrec
            have h2 := joke.recs
            have h3 := oke.small
            simp at h1; omega
          have h := h.ord 4 [2, 0, 1, 3]
          dsimp only [pick, nthO, dropO] at h
          refine must_st (A := []) (B := []) h (hxr _ (h.ord 4 [])) hc8 (by omega) ?_
          intro w s' x hx h
          have h := h.ord 4 [1, 2, 0, 3]
          dsimp only [pick, nthO, dropO] at h
          refine hk3 _ _ ⟨d2, j2, s', L ++ [x], own ++ [x], hb2.trans hb, hjb2.trans hjb, ok2, jok2, hoff2, hdead2, fun ha => harm (harm2 ha), hsl2.trans hsl, by rw [hrec2, hrec]; simp [hx], hsc2, hfr2, ?_, by omega, h⟩
          intro y hy
          rcases List.mem_append.1 hy with hy | hy
          · rcases hown y hy with h | h
            · exact .inl (List.mem_append_left _ h)
            · exact .inr h
          · exact .inl (List.mem_append_right _ hy)
        · intro k7 hk7
          rw [hxi, SplitB_iff]
          refine ⟨fun hy => ?_, fun hy => ?_⟩
          · have hy : (Rl[k].2.length : Int) > 8192 := of_decide_eq_true hy
            omega
          rw [hjp2]
          refine (room_st h ok2 jok2).mono ?_
          rintro r1 w ⟨rfl, h⟩
          refine hk7 _ _ ⟨?_, h⟩
          dsimp only
          rw [hdead2, if_neg (by simp)]
          exact decide_eq_false (show ¬ ((d2.secs.length : Int) - j2.next ≥ (e.secs.length : Int) - i.next) by omega)
      · -- torn
        subst hr
        rw [SplitB_iff]
        refine ⟨(fun hy => by simp at hy), fun _ => ?_⟩
        refine (num_ok 200).mono ?_
        rintro r1 w' ⟨hw', rfl⟩
        subst hw'
        rw [SplitB_iff]
        refine ⟨fun _ => ?_, (fun hy => by simp at hy)⟩
        try (with_reducible refine NilP.mk ?_)
        refine h.loadB 3 0 ⟨_, rfl, rfl⟩ rfl rfl ?_
        rw [SplitB_iff]
        refine ⟨fun _ => ?_, (fun hy => by have h1 := harm harm2; have h2 : ¬ Af ≥ 0 := of_decide_eq_false hy; omega)⟩
        try (with_reducible refine NilP.mk ?_)
        refine h.loadB 2 0 ⟨_, rfl, rfl⟩ rfl rfl ?_
        rw [← hp2] at h ⊢
        refine (ison_st h).mono ?_
        rintro r1 w ⟨rfl, h⟩
        rw [hoff2, SplitB_iff]
        refine ⟨fun _ => ?_, (fun hy => by cases hy)⟩
        rw [hjp2]
        refine (dead_st h).mono ?_
        rintro r1 w ⟨rfl, h⟩
        rw [hdead2, SplitB_iff]
        refine ⟨fun _ => ?_, (fun hy => by cases hy)⟩
        refine (len_st h).mono ?_
        rintro r1 w ⟨rfl, h⟩
        rw [hdead2, if_pos rfl, SplitB_iff]
        refine ⟨fun _ => ?_, (fun hy => by simp at hy)⟩
        refine (append_st h ok2 jok2 (by omega) (p := ⟨none, 0, 0⟩) (c := []) (fun w h => Rd.nil _ _)).mono ?_
        rintro r1 w ⟨rfl, d3, j3, hb3, hjb3, ha3, hd3, ok3, jok3, h⟩
        have e3 : j2.abs.append d2.abs [] = (200, { j2.abs with dead := true }, d2.abs) := by
          unfold JA.append
          rw [if_pos (.inl hdead2)]
        rw [e3] at hd3 ⊢
        dsimp only at hd3 ⊢
        refine (num_ok 200).mono ?_
        rintro r1 w' ⟨hw', rfl⟩
        subst hw'
        have hsl3 : d3.secs.length = d2.secs.length := by
          have := congrArg (fun a => a.ims.length) hd3
          simpa using this
        have hwr3 : d3.wr = d2.wr := congrArg A.wr hd3
        have hp3 : d2.p = d.p := hp2.trans hp
        have h := h.ord 4 [0, 2]
        dsimp only [pick, nthO, dropO] at h
        rw [hp3] at h
        refine ⟨d3, s, L, own, hb3.trans (hb2.trans hb), ok3, by omega, ?_, hown, h, .inr ⟨Rl[k], hmem, rfl, ?_⟩⟩
        · omega
        · rw [hd3, ← hrec]; exact hgood
  · skip
    try (with_reducible refine NilP.mk ?_)
    refine h.loadB 2 0 ⟨_, rfl, rfl⟩ rfl rfl ?_
    rw [← hp]
    refine (arm_st h oke (-1) 0 (by decide)).mono ?_
    rintro ⟨⟩ w ⟨d2, hb2, hd2, ok2, h⟩
    have him : d2.abs.ims = e.abs.ims := by
      rw [hd2]; unfold A.arm; split <;> rfl
    have hwr2 : d2.wr = e.wr := by
      have := congrArg A.wr hd2
      rw [abs_wr] at this
      rw [this]; unfold A.arm; split <;> rfl
    have hsl2 : d2.secs.length = e.secs.length := by
      have := congrArg List.length him
      simpa using this
    have h := h.ord 4 [0, 2]
    dsimp only [pick, nthO, dropO] at h
    rw [hp]
    refine ⟨d2, s, L, own, hb2.trans hb, ok2, by omega, by omega, hown, h, .inl ⟨rfl, ?_⟩⟩
    rw [him, ← hrec]
    exact ⟨_, hsc, hfr⟩
end Go.Proofs.Ytimebochhbfkgaa
