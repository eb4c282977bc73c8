/- A tale of a disk: what must be there, what may be; an Open, and a life. -/
import Derived.Test.YtimebochhbfkgaaJkM
namespace Go.Proofs.Ytimebochhbfkgaa
open Go Go.Fw Go.RowKit
set_option linter.unusedVariables false
set_option linter.unusedSimpArgs false
set_option maxRecDepth 4000
set_option maxHeartbeats 2000000
variable {w0 w : World} {F G : Grps} {d : D} {j : J}

theorem dead_st (h : St w0 w (dg d :: jg j d.p :: F)) : CallK Try.prog .bool 44 #[.pointer j.p] w fun (r : Bool) w' => r = j.dead ∧ St w0 w' (dg d :: jg j d.p :: F) := by
  refine T44.calls ?_
  unfold T44
  try (with_reducible refine NilP.mk ?_)
  refine h.loadB 1 0 ⟨_, rfl, rfl⟩ rfl rfl ?_
  exact ⟨rfl, h⟩
/-- What an Append comes to on a disk that is on, with just these records on it. -/
theorem append_case (h : St w0 w (dg d :: jg j d.p :: F)) (ok : DOk d) (jok : JOk j d) (hd : j.dead = false) (ho : d.off = false) (hw : d.wr ≤ 2305843009213693952) (hs : Scan d.abs.ims (j.recs.map (·.2)) j.next) (hf : Fresh (d.abs.ims.drop j.next)) {p : Sl} {c : List UInt8} (hp : SeesG w0 F p 1 (bys c)) :
    CallK Try.prog (.int .i64) 13 #[.pointer j.p, .slice p.a p.len p.cap] w fun (r : Int) w' =>
      ∃ (d' : D) (j' : J), d'.b = d.b ∧ j'.b = j.b ∧ DOk d' ∧ JOk j' d' ∧ d'.secs.length = d.secs.length ∧ d'.wr ≤ d.wr + 17 ∧ St w0 w' (dg d' :: jg j' d'.p :: F) ∧
        ((8192 < c.length ∧ r = 2 ∨ c.length ≤ 8192 ∧ r = 211 ∧ (d.secs.length : Int) - j.next < 17) ∧ j'.abs = j.abs ∧ d'.abs = d.abs ∨
         (c.length ≤ 8192 ∧ r = 0 ∧ j'.recs.map (·.2) = j.recs.map (·.2) ++ [c] ∧ j'.next = j.next + cnt c.length ∧ j'.dead = false ∧ d'.off = false ∧ (d'.armed = true → d.armed = true) ∧ Scan d'.abs.ims (j'.recs.map (·.2)) j'.next ∧ Fresh (d'.abs.ims.drop j'.next)) ∨
         (c.length ≤ 8192 ∧ r = 200 ∧ d.armed = true ∧ d'.off = true ∧ d'.armed = false ∧ j'.dead = true ∧ (Good d'.abs.ims (j.recs.map (·.2)) ∨ Good d'.abs.ims (j.recs.map (·.2) ++ [c])))) := by
  refine (append_st h ok jok hw hp).mono ?_
  rintro r w ⟨rfl, d2, j2, hb2, hjb2, ha2, hd2, ok2, jok2, h⟩
  have hp2 : d2.p = d.p := by rw [D.p, D.p, hb2]
  rw [← hp2] at h
  obtain ⟨h1, h2, h3⟩ := JA.append_wr j.abs d.abs c
  rw [← hd2] at h1 h2
  simp only [abs_len, abs_wr] at h1 h2
  refine ⟨d2, j2, hb2, hjb2, ok2, jok2, h2, h1, h, ?_⟩
  rcases append_any_pure (x := j.abs) (a := d.abs) (b := c) (ims_len ok) hd ho ok.torn hs hf with ⟨hb, e⟩ | ⟨hb, hr, e⟩ | ⟨hb, a', e, h4, h5, h6, h7, h8⟩ | ⟨hb, a', e, h4, h5, h6, h7⟩
  · left
    rw [e] at ha2 hd2 ⊢
    exact ⟨.inl ⟨hb, rfl⟩, ha2, hd2⟩
  · left
    rw [e] at ha2 hd2 ⊢
    refine ⟨.inr ⟨hb, rfl, ?_⟩, ha2, hd2⟩
    simpa [J.abs] using hr
  · right; left
    rw [e] at ha2 hd2 ⊢
    dsimp only at ha2 hd2 ⊢
    have r1 : j2.recs.map (·.2) = j.recs.map (·.2) ++ [c] := congrArg JA.recs ha2
    have r2 : j2.next = j.next + cnt c.length := congrArg JA.next ha2
    refine ⟨hb, rfl, r1, r2, (congrArg JA.dead ha2).trans hd, (congrArg A.off hd2).trans h4, fun hx => h5 (by rw [← hd2]; exact hx), ?_, ?_⟩
    · rw [r1, r2, hd2]; exact h7
    · rw [r2, hd2]; exact h8
  · right; right
    rw [e] at ha2 hd2 ⊢
    dsimp only at ha2 hd2 ⊢
    refine ⟨hb, rfl, h4, (congrArg A.off hd2).trans h5, (congrArg A.armed hd2).trans h6, congrArg JA.dead ha2, ?_⟩
    rw [hd2]; exact h7

/-- The tale in memory: the disk, what must be there; some of these bytes are its own. -/
def tg (bt : Nat) (dp : Option Addr) (s : Sl) (L own : List Bs) : List Ent := .cel bt 48 [.pointer dp, .slice s.a s.len s.cap] :: .row 31 1 s (lsl L) :: own.map (brw 5)
def Owns (w0 : World) (L own : List Bs) : Prop := ∀ x ∈ L, x ∈ own ∨ Rd w0 x.1 1 (bys x.2)
variable {bt : Nat} {s : Sl} {L own : List Bs} {dp : Option Addr}
theorem tg_sees (ho : Owns w0 L own) (h : St w0 w (tg bt dp s L own :: F)) : Rd w s 1 (lsl L) ∧ ∀ x ∈ L, Rd w x.1 1 (bys x.2) := by
  refine ⟨h.rd (k := 0) (i := 1) ⟨_, rfl, rfl⟩, fun x hx => ?_⟩
  rcases ho x hx with h1 | h1
  · have : brw 5 x ∈ tg bt dp s L own := List.mem_cons_of_mem _ (List.mem_cons_of_mem _ (List.mem_map.2 ⟨x, h1, rfl⟩))
    exact (h.memG 0 rfl this).1.rd
  · exact h.old h1
theorem tg_len {k : Nat} (h : St w0 w G) (hk : nthO G k = some (tg bt dp s L own)) : s.len = L.length := by
  have := (h.rd (k := k) (i := 1) ⟨_, hk, rfl⟩).1
  rw [lsl_len] at this; omega
/-- One record more that must be there: a copy of these bytes. -/
theorem must_st {A B : Grps} (h : St w0 w (tg bt dp s L own :: F)) {p : Sl} {c : List UInt8} (hp : Rd w p 1 (bys c)) (hc : c.length ≤ 8192) (hL : L.length ≤ 1048576) {K : World → Prop}
    (hk : ∀ w' s' x, x.2 = c → St w0 w' (tg bt dp s' (L ++ [x]) (own ++ [x]) :: F) → K w') :
    ReadN Try.prog .sl (V (Instr.loadAt 22 (.pointer (some ((⟨bt, 0, none⟩ : Addr).add 1))))) w.drew fun t63 =>
      RunN Try.prog .sl (V (Builtin.append_ #[31, 31] 31 #[.slice none 0 0, .slice p.a p.len p.cap])) w.drew fun t65 w =>
      StillV Try.prog (V (Instr.loadAt 22 (.pointer (some ((⟨bt, 0, none⟩ : Addr).add 1))))) (.slice t63.a t63.len t63.cap) w ∧
      RunN Try.prog .sl (V (Instr.buildSlice 22 1 #[(0, .slice t65.a t65.len t65.cap)])) w fun t66 w =>
      StillV Try.prog (V (Instr.loadAt 22 (.pointer (some ((⟨bt, 0, none⟩ : Addr).add 1))))) (.slice t63.a t63.len t63.cap) w ∧
      RunN Try.prog .sl (V (Builtin.append_ #[22, 22] 22 #[.slice t63.a t63.len t63.cap, .slice t66.a t66.len t66.cap])) w fun t67 w =>
      NilP (some (⟨bt, 0, none⟩ : Addr)) fun t68 =>
      RunU Try.prog (U (Instr.storeAt 22 (.pointer (some (t68.add 1))) (.slice t67.a t67.len t67.cap))) w fun w => K w := by
  have hpl := hp.bys_len
  have hsl := tg_len h (k := 0) rfl
  try (with_reducible refine NilP.mk ?_)
  refine h.drew.readB 0 0 ⟨_, rfl, rfl⟩ rfl rfl ?_
  refine h.drew.appNil (e := 5) (hp.upd (Upd.drew _ nobody) (fun _ _ h => h)) (bys_one _) (by simp only [maxLen]; omega) (by omega) ?_
  intro r w hr h
  refine ⟨h.stillB 1 0 ⟨_, rfl, rfl⟩ rfl rfl, ?_⟩
  refine h.newS 1 (bs22 _ _ _ _) rfl rfl rfl ?_
  intro u w hul huc _ h
  refine ⟨h.stillB 2 0 ⟨_, rfl, rfl⟩ rfl rfl, ?_⟩
  refine h.app 2 1 ⟨_, rfl, rfl⟩ (h.rd (k := 0) (i := 0) ⟨_, rfl, rfl⟩) one_slice (by simp only [maxLen]; omega) (by omega) ?_
  intro s' w hs' h
  dsimp only [updG, setO, tg] at h
  have h := h.drop 0
  dsimp only [delO] at h
  try (with_reducible refine NilP.mk ?_)
  refine h.storB 1 0 ⟨_, rfl, rfl⟩ rfl rfl rfl ?_
  intro w h
  dsimp only [updG, setO] at h
  have h := h.into
  refine hk _ s' (r, c) rfl ?_
  have e : tg bt dp s' (L ++ [(r, c)]) (own ++ [(r, c)]) = [Ent.cel bt 48 [.pointer dp, .slice s'.a s'.len s'.cap], Ent.row 31 1 s' (lsl L ++ [.slice r.a r.len r.cap])] ++ (own.map (brw 5) ++ [brw 5 (r, c)]) := by
    unfold tg
    simp only [lsl_snoc, List.map_append, List.map_cons, List.map_nil, List.cons_append, List.nil_append]
  rw [e]; exact h

theorem opened_st (h : St w0 w (dg d :: tg bt d.p s L own :: F)) (ok : DOk d) (hown : Owns w0 L own) {p : Sl} {c : List UInt8} (hp : SeesG w0 F p 1 (bys c)) {perhaps : Bool}
    (hcase : Good d.abs.ims (L.map (·.2)) ∨ perhaps = true ∧ Good d.abs.ims (L.map (·.2) ++ [c])) :
    CallK Try.prog .ptr 21 #[.pointer (some ⟨bt, 0, none⟩), .slice p.a p.len p.cap, .bool perhaps] w fun (r : Option Addr) w' =>
      ∃ (j : J) (s' : Sl) (L' own' : List Bs), r = j.p ∧ JOk j { d with off := false } ∧ j.dead = false ∧ j.recs.map (·.2) = L'.map (·.2) ∧ Scan d.abs.ims (j.recs.map (·.2)) j.next ∧ Fresh (d.abs.ims.drop j.next) ∧ Owns w0 L' own' ∧
        St w0 w' (dg { d with off := false } :: jg j d.p :: tg bt d.p s' L' own' :: F) := by
  have ok2 : DOk { d with off := false } := ⟨ok.tr, ok.full, ok.small, ok.w0, ok.torn, ok.after⟩
  refine T21.calls ?_
  unfold T21
  try (with_reducible refine NilP.mk ?_)
  refine h.loadB 1 0 ⟨_, rfl, rfl⟩ rfl rfl ?_
  refine (on_st h).mono ?_
  rintro ⟨⟩ w h
  try (with_reducible refine NilP.mk ?_)
  refine h.loadB 1 0 ⟨_, rfl, rfl⟩ rfl rfl ?_
  refine (open_st (d := { d with off := false }) h ok2 rfl).mono ?_
  rintro r w ⟨j, rfl, hjd, jok, hop, h⟩
  have h : St w0 w (dg { d with off := false } :: jg j d.p :: tg bt d.p s L own :: F) := h
  have hjl : j.recs.length ≤ 65536 := Nat.le_trans jok.recs (Nat.le_trans jok.next ok2.small)
  have hop : Opened d.abs.ims (j.recs.map (·.2)) j.next := hop
  have hor : (j.recs.map (·.2) = L.map (·.2) ∨ perhaps = true ∧ j.recs.map (·.2) = L.map (·.2) ++ [c] ∧ c.length ≤ 8192) ∧ Scan d.abs.ims (j.recs.map (·.2)) j.next ∧ Fresh (d.abs.ims.drop j.next) := by
    rcases hcase with hg | ⟨hp1, hg⟩
    · obtain ⟨h1, h2, h3⟩ := hg.opened hop
      exact ⟨.inl h1, by rw [h1]; exact h2, h3⟩
    · obtain ⟨h1, h2, h3⟩ := hg.opened hop
      refine ⟨.inr ⟨hp1, h1, ?_⟩, by rw [h1]; exact h2, h3⟩
      exact (h2.le (ims_len ok)).2.2 c (by simp)
  obtain ⟨hor, hsc, hfr⟩ := hor
  have hsl := tg_len h (k := 2) rfl
  have hlen : j.recs.length = L.length ∨ perhaps = true ∧ j.recs.length = L.length + 1 := by
    rcases hor with h1 | ⟨h0, h1, _⟩
    · left; have := congrArg List.length h1; simpa using this
    · right; refine ⟨h0, ?_⟩; have := congrArg List.length h1; simpa using this
  dsimp only
  refine JoinX.mk (fun jv w' => jv.1 = false ∧ St w0 w' (dg { d with off := false } :: jg j d.p :: tg bt d.p s L own :: F)) ?_ ?_
  · rintro ⟨_, ⟨⟩⟩ w ⟨hj, h⟩
    dsimp only at hj h ⊢
    subst hj
    rw [SplitB_iff]
    refine ⟨(fun hz => by cases hz), fun _ => ?_⟩
    refine (len_st (d := { d with off := false }) h).mono ?_
    rintro r w ⟨rfl, h⟩
    rw [hjd, if_neg (by simp)]
    refine JoinX.mk (fun jv w' => jv.1 = false ∧ St w0 w' (dg { d with off := false } :: jg j d.p :: tg bt d.p s L own :: F)) ?_ ?_
    · rintro ⟨_, ⟨⟩⟩ w ⟨hj, h⟩
      dsimp only at hj h ⊢
      subst hj
      rw [SplitB_iff]
      refine ⟨(fun hz => by cases hz), fun _ => ?_⟩
      refine JoinX.mk (fun _ w' => ∃ (s' : Sl) (L' own' : List Bs), j.recs.map (·.2) = L'.map (·.2) ∧ Owns w0 L' own' ∧ St w0 w' (dg { d with off := false } :: jg j d.p :: tg bt d.p s' L' own' :: F)) ?_ ?_
      · rintro ⟨⟩ w ⟨s', L', own', hr, hown', h⟩
        try (with_reducible refine NilP.mk ?_)
        refine h.loadB 2 0 ⟨_, rfl, rfl⟩ rfl rfl ?_
        refine (tells_st (d := { d with off := false }) h jok hjd (p := s') (L := L') (fun w h => tg_sees hown' h) hr (by omega)).mono ?_
        rintro bb w ⟨rfl, h⟩
        rw [SplitB_iff]
        refine ⟨(fun hz => by cases hz), fun _ => ?_⟩
        exact ⟨j, s', L', own', rfl, jok, hjd, hr, hsc, hfr, hown', h⟩
      · intro k5 hk5
        try (with_reducible refine NilP.mk ?_)
        refine h.loadB 2 0 ⟨_, rfl, rfl⟩ rfl rfl ?_
        rw [SplitB_iff]
        refine ⟨fun hz => ?_, fun hz => ?_⟩
        · have hz : j.recs.length > s.len := by
            have h1 : (j.recs.length : Int) > (s.len : Int) := of_decide_eq_true hz
            omega
          rcases hor with h1 | ⟨h0, h1, h2⟩
          · exfalso
            have := congrArg List.length h1
            simp at this; omega
          · skip
            have h := h.ord 3 [2, 0, 1]
            dsimp only [pick, nthO, dropO] at h
            refine must_st (A := []) (B := []) h (hp _ (h.ord 3 [])) h2 (by omega) ?_
            intro w s' x hx h
            have h := h.ord 3 [1, 2, 0]
            dsimp only [pick, nthO, dropO] at h
            refine hk5 _ _ ⟨s', L ++ [x], own ++ [x], by rw [h1]; simp [hx], ?_, h⟩
            intro y hy
            rcases List.mem_append.1 hy with hy | hy
            · rcases hown y hy with h | h
              · exact .inl (List.mem_append_left _ h)
              · exact .inr h
            · exact .inl (List.mem_append_right _ hy)
        · have hz : ¬ j.recs.length > s.len := by
            have h1 : ¬ (j.recs.length : Int) > (s.len : Int) := of_decide_eq_false hz
            omega
          rcases hor with h1 | ⟨h0, h1, h2⟩
          · exact hk5 _ _ ⟨s, L, own, h1, hown, h⟩
          · exfalso
            have := congrArg List.length h1
            simp at this; omega
    · intro k3 hk3
      try (with_reducible refine NilP.mk ?_)
      refine h.loadB 2 0 ⟨_, rfl, rfl⟩ rfl rfl ?_
      rw [SplitB_iff]
      refine ⟨fun hz => ?_, fun hz => ?_⟩
      · have hz : j.recs.length ≠ s.len := by
          intro e; rw [e] at hz; simp at hz
        rcases hlen with h1 | ⟨h0, h1⟩
        · omega
        · rw [h0, SplitB_iff]
          refine ⟨(fun hz => by cases hz), fun _ => ?_⟩
          try (with_reducible refine NilP.mk ?_)
          refine h.loadB 2 0 ⟨_, rfl, rfl⟩ rfl rfl ?_
          refine hk3 _ _ ⟨?_, h⟩
          dsimp only
          rw [wr (x := (s.len : Int) + 1) (by omega), h1, hsl]; simp
      · exact hk3 _ _ ⟨rfl, h⟩
  · intro k1 hk1
    first | refine RunN.pEqS ?_ | refine RunN.pEqN ?_ | refine RunN.pNeS ?_ | refine RunN.pNeN ?_
    rw [SplitB_iff]
    exact ⟨(fun hz => by cases hz), fun _ => hk1 _ _ ⟨rfl, h⟩⟩
end Go.Proofs.Ytimebochhbfkgaa
